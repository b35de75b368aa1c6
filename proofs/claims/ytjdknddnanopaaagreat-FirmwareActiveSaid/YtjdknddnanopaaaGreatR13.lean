/-
  Part 13 of the proof.
-/
import Derived.Test.YtjdknddnanopaaaGreatR12
namespace Go.Proofs.YtjdknddnanopaaaGreat
open Go.RowKit Tryz
set_option maxRecDepth 100000
set_option maxHeartbeats 16000000
set_option linter.all false
variable {w w' w1 w2 : World} {S : Sc} {X Y : Nat → Prop} {e : TypeId} {B : Nat} {v : Value} {q : List Int} {L : Lc} {x : Int} {f : Fl} {s : St}
theorem KR {x : Rc} {g : Fl} (h : ca X w x g) (hX : ∀ b, X b → b < w.heap.size) (fi bl : Nat) (A : Option Addr) (n c : Nat) (sp : List eB) (hA : Rd w w.heap.size A (bK sp)) (lR : sp.length = n) (qm : n ≤ c) (fQ : c ≤ maxLen) (dc : ∀ p ∈ sp, p.ok) 
 (hd : g.aF = false) (dP : 2 ≤ bl) (Aa : bl ≤ 16) (DB : fi + bl ≤ g.ar.length) (yU : 1 ≤ n) (uw : n ≤ 48) (Wz : sp.any fy = false) (aag : ¬ g.pg < cN sp.length) :
 Calls prog 30 #[x.v g, .int .i64 (fi : Int), .int .i64 (bl : Int), .slice A n c] w (OpS X w g fi bl sp) := by
 have kC := h.ok.b2
 have HR := iD h
 have HX := iD hX
 have HE := iD (Ie hd dP Aa DB (by rw [lR]; exact yU) (by rw [lR]; exact uw))
 rw [lR] at HE
 have xP := h.ok.p2
 have rR := h.ok.p1
 have HA := iD hA
 have nr := iD lR
 have gX := iD dc
 obtain ⟨B, cc, D, d, P, r⟩ := x
 show Calls prog 30 #[.agg #[.slice B g.img.length cc, .int .i64 g.pg, .slice D g.ar.length d, .bool g.aF, .int .i64 g.be, .slice P g.az.length r], _, _, _] w _
 obtain ⟨i9, OG, Ey, Ex, Ew⟩ := info_parts zM
 unfold maxLen at fQ
 have zk : Hid ((bK sp).length = n * 3) := by rw [Hid, xM, lR]
 have nR : 0 ≤ maxLen := Nat.zero_le _
 rw [hd]
 obtain ⟨wl, Io⟩ := ex g.ar.length
 rw [Io] at kC DB
 rw [Io]
 have Yw := iD Wz
 have abj := iD aag
 clear h hA lR dc
 go_enter func30, ntmps30
 go_upto_region 9 with (fail)
 obtain ⟨W2, lX⟩ := ex ((w.alloc (.cells #[.slice B g.img.length cc, .int .i64 g.pg, .slice D wl d, .bool false, .int .i64 g.be, .slice P g.az.length r] 35)).alloc (.cells #[.int .i64 0, .int .i64 0, .slice none 0 0, .slice none 0 0, .slice none 0 0, .int .i64 0, .int .i64 0, .int .i64 0, .slice none 0 0, .slice none 0 0, .int .i64 0, .int .i64 0, .int .i64 0, .int .i64 0, .bool false] 43))
 have l4 : Hid (∀ o, (w.alloc o).heap.size = w.heap.size + 1) := fun o => Array.size_push _
 have gh : Hid (bW w W2) := by rw [← lX]; exact ck _ _ _
 have Rw : Hid (W2.ownsRow w.heap.size 35 6 (.slice (some ⟨w.heap.size, 0, none⟩) 1 1) 1 [.slice B g.img.length cc, .int .i64 g.pg, .slice D wl d, .bool false, .int .i64 g.be, .slice P g.az.length r]) := by
  rw [← lX]
  exact aC (vH rfl rfl cV) (bI _ _)
 have ya : Hid (W2.ownsRow w.heap.size 43 15 (.slice (some ⟨w.heap.size + 1, 0, none⟩) 1 1) 1 zL) := by
  rw [← lX]
  have := vH (w := w.alloc (.cells #[.slice B g.img.length cc, .int .i64 g.pg, .slice D wl d, .bool false, .int .i64 g.be, .slice P g.az.length r] 35)) (base := w.heap.size) (e := 43) (size := 15) (cs := #[.int .i64 0, .int .i64 0, .slice none 0 0, .slice none 0 0, .slice none 0 0, .int .i64 0, .int .i64 0, .int .i64 0, .slice none 0 0, .slice none 0 0, .int .i64 0, .int .i64 0, .int .i64 0, .int .i64 0, .bool false]) (xs := zL) rfl rfl (by rw [l4]; omega)
  rw [l4] at this
  exact this
 try rw [lX]
 clear lX
 go_wp2_with (at_builtin; refine aN _ rfl _ _ 40 rfl w.heap.size 132 i9 (.agg #[.int .i64 0, .int .i64 0, .int .i64 0]) 3 24 underlying40 OG Ey Ex Ew rfl oM _ 0 [] rfl (World.ownsRow_lit W2 #[] 0 gh.size nR rfl) w.heap.size _ n c (bK sp) rfl ((HA.below gh cV).below ((Below.refl W2.heap.size W2).alloc cV _) gh.size) zk (mR _) (by unfold maxLen; omega) oM (by have := gh.size; simp; omega) ?_)
 intro v5 w5 hown5 hgrow5 _
 have kd : w5.ownsRow w.heap.size 132 3 v5 n (bK sp) := by simpa using hown5
 have gC : bW W2 w5 := ((Below.refl W2.heap.size W2).alloc cV _).grown hgrow5 (by simp) (fun k hk => by have hk' : some W2.heap.size = some k := hk; injection hk'; omega)
 have RC : Hid (bW w w5) := gh.trans (gC.mono gh.size)
 have abo := iD (aC Rw gC)
 have X0 := iD (aC ya gC)
 obtain ⟨Q, cq, rfl, Dv, A0, _⟩ := a9 kd
 have aa8 := iD kd
 clear hown5 hgrow5 kd gC
 have tn : Hid (w.heap.size + 1 < w5.heap.size) := (X0.lt _ rfl).2
 have hI6 : qC w (w5.alloc (.cells #[.int .i64 (fi : Int), .int .i64 (bl : Int), .slice Q n cq, .slice none 0 0, .slice none 0 0, .int .i64 0, .int .i64 0, .int .i64 (-1), .slice none 0 0, .slice none 0 0, .int .i64 0, .int .i64 (-1), .int .i64 0, .int .i64 0, .bool false] 43)) w.heap.size (w.heap.size + 1) w5.heap.size ⟨B, cc, D, d, P, r⟩ g fi bl Q n cq sp none 0 [] 0 0 (-1) := by
  have hb := (Below.refl w5.heap.size w5).alloc cV (.cells #[.int .i64 (fi : Int), .int .i64 (bl : Int), .slice Q n cq, .slice none 0 0, .slice none 0 0, .int .i64 0, .int .i64 0, .int .i64 (-1), .slice none 0 0, .slice none 0 0, .int .i64 0, .int .i64 (-1), .int .i64 0, .int .i64 0, .bool false] 43)
  refine ⟨RC.out.trans (hb.mono RC.out.size), ?_, aC X0.out hb, vH rfl rfl RC.out.size, aC aa8.out hb, World.ownsRow_nil _ _ _ _, by have := tn.out; omega⟩
  have e : Rc.l ⟨B, cc, D, d, P, r⟩ g = [.slice B g.img.length cc, .int .i64 g.pg, .slice D wl d, .bool false, .int .i64 g.be, .slice P g.az.length r] := by
   unfold Rc.l
   rw [hd, Io]
  rw [e]
  exact aC abo hb
 have PY := iD hI6
 obtain ⟨i3, vS, kB, jN, la⟩ := info_parts mr
 clear hI6
 go_wp2
 go_loopw [64] (fun i wr => ∃ (j cs : Nat) (Qs : Option Addr), j ≤ n ∧ i = .int .i64 j ∧ qC w wr w.heap.size (w.heap.size + 1) w5.heap.size ⟨B, cc, D, d, P, r⟩ g fi bl Q n cq sp Qs cs ((sp.take j).map eB.df) 0 0 (-1) ∧ (sp.take j).any fy = false) (fun i _ => n - (intOf i).toNat)
 case atStart => exact ⟨0, 0, none, Nat.zero_le _, rfl, PY, rfl⟩
 case round =>
  obtain ⟨j, cs, Qs, hj, rfl, hI, QL⟩ := hrel
  have HI := iD hI
  have Ye := iD QL
  clear hI QL
  by_cases aY : j < n
  ·obtain ⟨p, hp⟩ := getElem?_of_lt (l := sp) (k := j) (by rw [nr]; exact aY)
   obtain ⟨ba, off, rfl, c0, c1, c2⟩ := (HA.below HI.below cV).Gf hp
   have xB : Hid ((sp.take (j + 1)).map eB.df = (sp.take j).map eB.df ++ [p.df]) := by rw [Hid, bA _ j p hp, List.map_append]; rfl
   have FL : Hid (((sp.take j).map eB.df).length = j) := by rw [Hid, List.length_map, List.length_take, nr]; omega
   generalize (sp.take j).map eB.df = raw at xB FL HI
   obtain ⟨W, hW⟩ := ex (wr.alloc (.cells #[.int .i64 p.lo, .int .i64 p.hi, .int .i64 p.df] 132))
   have gg : Hid (bW wr W) := by rw [← hW]; exact bV.alloc cV _
   have d0 : W.cell? ⟨wr.heap.size, 0, none⟩ = some (.int .i64 p.lo) := by rw [← hW]; exact bO _ _ _ _ _ _ rfl rfl
   have d1 : W.cell? ⟨wr.heap.size, 1, none⟩ = some (.int .i64 p.hi) := by rw [← hW]; exact bO _ _ _ _ _ _ rfl rfl
   have d2 : W.cell? ⟨wr.heap.size, 2, none⟩ = some (.int .i64 p.df) := by rw [← hW]; exact bO _ _ _ _ _ _ rfl rfl
   have MX := iD (HI.ab gg)
   have abZ := gX p (List.mem_of_getElem? hp)
   have HP := iD hp
   clear hp
   by_cases fh : fy p = true
   ·exact absurd (Az HP fh) (by rw [Yw]; decide)
   have dO : fy p = false := by simpa using fh
   have HBD := iD dO
   have hg : ¬ p.df < p.lo ∧ ¬ p.hi < p.df := by
    unfold fy at dO
    rw [decide_eq_false_iff_not] at dO
    omega
   obtain ⟨tW, vT⟩ := hg
   have r4 := MX.row 4 _ rfl
   rw [FL] at r4
   have fL := MX.sv
   rw [FL] at fL
   have xX := iD fL
   clear fh dO fL
   go_upto_region 13 with (fail)
   try rw [hW]
   clear hW c0 c1 c2
   go_wp2_with (at_builtin; refine wpList_append_own _ rfl _ _ 33 rfl w.heap.size 3 i3 (.int .i64 0) 1 8 underlying33 vS kB jN la rfl oM _ j _ rfl (aC xX (bV.alloc cV _)) ⟨W.heap.size, 0, none⟩ 1 1 [.int .i64 p.df] rfl rfl (cell_one_new _ _ _) (by simp [Value.oneCell']) (by unfold maxLen; omega) oM (by have := MX.below.size; simp; omega) ?_)
   intro v' w8 hown8 hgrow8 _
   have hpu := MX.push (W' := w8) (v' := v') (y := p.df) (o := .cells #[.int .i64 p.df] 3) (by rw [FL, aA, List.map_append]; exact hown8) (by rw [FL]; exact hgrow8)
   obtain ⟨Qs', cs', rfl, _, z4, c4, hI8⟩ := hpu
   rw [FL] at hI8 c4
   rw [FL]
   have PX := iD hI8
   clear hown8 hgrow8 hI8 d0 d1 d2 r4
   go_wp2
   go_roundw
   case rel => exact ⟨j + 1, cs', Qs', oM, by go_num, by rw [xB]; exact PX, C7 HP Ye HBD⟩
   case measure => simp [intOf]; omega
  have Bc : j = n := oM
  subst Bc
  have gH : sp.any fy = false := by
   have := Ye.out
   rwa [List.take_of_length_le (by rw [nr]; exact Nat.le_refl _)] at this
  have FM : Hid (cI g fi bl sp = if g.pg < cN j then 11 else 0) := HE.trans (iN (by rw [gH]; decide))
  rw [List.take_of_length_le (by rw [nr]; exact Nat.le_refl _)] at HI
  have jh := iD (fun w => oF j oM w)
  have xk := iD gH
  have jE := jL uw
  have ux := j7 yU
  obtain ⟨K, hK⟩ := ex (cN j)
  have HK := iD hK
  rw [hK] at FM jh jE ux
  have q1 := HI.ll 1 _ rfl
  clear gH hK
  go_wp2_with (fail)
  refine (jh _).mono ?_
  rintro e w6 ⟨rfl, rfl⟩
  by_cases uS : g.pg < K
  ·exact absurd uS (by rw [← HK, ← nr]; exact abj)
  have P2 : Hid (cI g fi bl sp = 0) := by rw [Hid, FM, iN uS]
  obtain ⟨pg, iA⟩ := ex g.pg
  have Jz := iD iA
  obtain ⟨T, hT⟩ := ex (pg / K)
  have HT := iD hT
  have WD : T ≤ 16 := by rw [← hT]; exact Nat.le_trans (Nat.div_le_self _ _) oM
  have tq : (pg : Int).tdiv (K : Int) = (T : Int) := by rw [Int.tdiv_eq_ediv_of_nonneg oM, ← hT]; push_cast; rfl
  have tq2 : (pg : Int) / (K : Int) = (T : Int) := by rw [← hT]; push_cast; rfl
  obtain ⟨s0, fp⟩ := ex (dM fi bl sp)
  have xZ := iD fp
  have HR0 : Hid (AD s0 (sp.map eB.df) 0 0 (-1)) := by
   rw [← fp]
   exact ⟨rfl, rfl, rfl, by simp [dM], tR xk⟩
  rw [iA] at q1 uS
  have Iv : 1 ≤ pg := oM
  have QD : pg ≤ 16 := oM
  have xB : Hid (T * K ≤ pg) := by rw [← hT]; exact Nat.div_mul_le_self _ _
  clear hT fp iA
  go_wp2
  clear q1
  go_loopw [98] (fun i wr => ∃ (b cs : Nat) (Qs : Option Addr) (raw : List Int) (seq gf slot : Int), b ≤ bl ∧ i = .int .i64 b ∧ qC w wr w.heap.size (w.heap.size + 1) w5.heap.size ⟨B, cc, D, d, P, r⟩ g fi bl Q j cq sp Qs cs raw seq gf slot ∧ AD (cR g T s0 b) raw seq gf slot) (fun i _ => bl - (intOf i).toNat)
  case atStart => exact ⟨0, cs, Qs, _, 0, 0, -1, Nat.zero_le _, rfl, HI, HR0⟩
  case round =>
   obtain ⟨b, cs, Qs, raw, seq, gf, slot, hb, rfl, hI, VV⟩ := hrel
   have HI := iD hI
   have zi := iD VV
   clear hI VV
   by_cases hltb : b < bl
   ·have q1 := HI.ll 1 _ rfl
    rw [Jz] at q1
    go_wp2
    clear q1
    go_loopw [105] (fun i wr => ∃ (jj cs : Nat) (Qs : Option Addr) (raw : List Int) (seq gf slot : Int), jj ≤ T ∧ i = .int .i64 jj ∧ qC w wr w.heap.size (w.heap.size + 1) w5.heap.size ⟨B, cc, D, d, P, r⟩ g fi bl Q j cq sp Qs cs raw seq gf slot ∧ AD (ee g b (cR g T s0 b) jj) raw seq gf slot) (fun i _ => T - (intOf i).toNat)
    case atStart => exact ⟨0, cs, Qs, raw, seq, gf, slot, Nat.zero_le _, rfl, HI, zi⟩
    case round =>
     obtain ⟨jj, cs, Qs, raw, seq, gf, slot, hjj, rfl, hI, VV⟩ := hrel
     have HI := iD hI
     have zi := iD VV
     clear hI VV
     by_cases hltj : jj < T
     ·obtain ⟨s, hs⟩ := ex (ee g b (cR g T s0 b) jj)
      rw [hs] at zi
      have uS : Kp s0 s := by rw [← hs]; exact (mU _ _ _ _).trans (qc _ _ _ _)
      have J5 : Hid (s.first = fi ∧ s.aw = sp) := ⟨uS.f.trans (by rw [← xZ]; rfl), uS.s.trans (by rw [← xZ]; rfl)⟩
      have vR : s.k = K := by unfold St.k; rw [J5.2, nr]; exact HK
      have yR : jj * K + K ≤ pg := by
       have h1 : (jj + 1) * K ≤ T * K := Nat.mul_le_mul_right _ hltj
       have := xB.out
       rw [Nat.add_mul, Nat.one_mul] at h1
       omega
      obtain ⟨P0, JU⟩ := ex ((fi + b) * pg + jj * K)
      have Ru : Hid (aG s g b jj = P0) := by unfold aG; rw [Hid, J5.1, vR, Jz]; exact JU
      have acp : P0 + K ≤ 64 * 16 := by
       have h1 : (fi + b + 1) * pg ≤ 64 * pg := Nat.mul_le_mul_right _ oM
       have h2 : 64 * pg ≤ 64 * 16 := Nat.mul_le_mul_left _ QD
       rw [Nat.add_mul (fi + b), Nat.one_mul] at h1
       omega
      have Jv := iD hs
      have zl := iD vR
      have aco : P0 + K ≤ wl * pg := by
       have h1 : (fi + b + 1) * pg ≤ wl * pg := Nat.mul_le_mul_right _ oM
       rw [Nat.add_mul (fi + b), Nat.one_mul] at h1
       omega
      have FF := iD JU
      clear uS vR hs JU
      go_wp2
      go_loopw [16, 109] (fun v i wr => ∃ (t : Nat) (vs : List Value), t ≤ K ∧ i = .int .i64 t ∧ Jp w wr v vs (bT g P0 t) ∧ qC w wr w.heap.size (w.heap.size + 1) w5.heap.size ⟨B, cc, D, d, P, r⟩ g fi bl Q j cq sp Qs cs raw seq gf slot) (fun _ i _ => K - (intOf i).toNat)
      case atStart => exact ⟨0, [], Nat.zero_le _, rfl, Jp.nil, HI⟩
      case round =>
       obtain ⟨t, vs, ht, rfl, hpj, hI⟩ := hrel
       have XS := iD hpj
       have HI := iD hI
       clear hpj hI
       by_cases hltt : t < K
       ·have iO : Hid (∀ W', bW wr W' → W'.cell? ⟨w5.heap.size, 0, none⟩ = some (.int .i64 (fi : Int)) ∧ W'.cell? ⟨w5.heap.size, 1, none⟩ = some (.int .i64 (bl : Int)) ∧ W'.cell? ⟨w5.heap.size, 2, none⟩ = some (.slice Q j cq) ∧ W'.cell? ⟨w5.heap.size, 3, none⟩ = some (.slice none 0 0) ∧ W'.cell? ⟨w5.heap.size, 4, none⟩ = some (.slice Qs raw.length cs) ∧ W'.cell? ⟨w5.heap.size, 5, none⟩ = some (.int .i64 seq) ∧ W'.cell? ⟨w5.heap.size, 6, none⟩ = some (.int .i64 gf) ∧ W'.cell? ⟨w5.heap.size, 7, none⟩ = some (.int .i64 slot) ∧ W'.cell? ⟨w5.heap.size, 8, none⟩ = some (.slice none 0 0) ∧ W'.cell? ⟨w5.heap.size, 9, none⟩ = some (.slice none 0 0) ∧ W'.cell? ⟨w5.heap.size, 10, none⟩ = some (.int .i64 0) ∧ W'.cell? ⟨w5.heap.size, 11, none⟩ = some (.int .i64 (-1)) ∧ W'.cell? ⟨w5.heap.size, 12, none⟩ = some (.int .i64 0) ∧ W'.cell? ⟨w5.heap.size, 13, none⟩ = some (.int .i64 0) ∧ W'.cell? ⟨w5.heap.size, 14, none⟩ = some (.bool false) ∧ W'.cell? ⟨w.heap.size, 0, none⟩ = some (.slice B g.img.length cc) ∧ W'.cell? ⟨w.heap.size, 1, none⟩ = some (.int .i64 g.pg) ∧ W'.cell? ⟨w.heap.size, 2, none⟩ = some (.slice D wl d) ∧ W'.cell? ⟨w.heap.size, 3, none⟩ = some (.bool false) ∧ W'.cell? ⟨w.heap.size, 4, none⟩ = some (.int .i64 g.be) ∧ W'.cell? ⟨w.heap.size, 5, none⟩ = some (.slice P g.az.length r)) := fun W' hb => by
         have h9 : W'.cell? ⟨w5.heap.size, 0, none⟩ = some (.int .i64 (fi : Int)) ∧ W'.cell? ⟨w5.heap.size, 1, none⟩ = some (.int .i64 (bl : Int)) ∧ W'.cell? ⟨w5.heap.size, 2, none⟩ = some (.slice Q j cq) ∧ W'.cell? ⟨w5.heap.size, 3, none⟩ = some (.slice none 0 0) ∧ W'.cell? ⟨w5.heap.size, 4, none⟩ = some (.slice Qs raw.length cs) ∧ W'.cell? ⟨w5.heap.size, 5, none⟩ = some (.int .i64 seq) ∧ W'.cell? ⟨w5.heap.size, 6, none⟩ = some (.int .i64 gf) ∧ W'.cell? ⟨w5.heap.size, 7, none⟩ = some (.int .i64 slot) ∧ W'.cell? ⟨w5.heap.size, 8, none⟩ = some (.slice none 0 0) ∧ W'.cell? ⟨w5.heap.size, 9, none⟩ = some (.slice none 0 0) ∧ W'.cell? ⟨w5.heap.size, 10, none⟩ = some (.int .i64 0) ∧ W'.cell? ⟨w5.heap.size, 11, none⟩ = some (.int .i64 (-1)) ∧ W'.cell? ⟨w5.heap.size, 12, none⟩ = some (.int .i64 0) ∧ W'.cell? ⟨w5.heap.size, 13, none⟩ = some (.int .i64 0) ∧ W'.cell? ⟨w5.heap.size, 14, none⟩ = some (.bool false) ∧ W'.cell? ⟨w.heap.size, 0, none⟩ = some (.slice B g.img.length cc) ∧ W'.cell? ⟨w.heap.size, 1, none⟩ = some (.int .i64 g.pg) ∧ W'.cell? ⟨w.heap.size, 2, none⟩ = some (.slice D g.ar.length d) ∧ W'.cell? ⟨w.heap.size, 3, none⟩ = some (.bool g.aF) ∧ W'.cell? ⟨w.heap.size, 4, none⟩ = some (.int .i64 g.be) ∧ W'.cell? ⟨w.heap.size, 5, none⟩ = some (.slice P g.az.length r) := ⟨(HI.ab hb).row 0 _ rfl, (HI.ab hb).row 1 _ rfl, (HI.ab hb).row 2 _ rfl, (HI.ab hb).row 3 _ rfl, (HI.ab hb).row 4 _ rfl, (HI.ab hb).row 5 _ rfl, (HI.ab hb).row 6 _ rfl, (HI.ab hb).row 7 _ rfl, (HI.ab hb).row 8 _ rfl, (HI.ab hb).row 9 _ rfl, (HI.ab hb).row 10 _ rfl, (HI.ab hb).row 11 _ rfl, (HI.ab hb).row 12 _ rfl, (HI.ab hb).row 13 _ rfl, (HI.ab hb).row 14 _ rfl, (HI.ab hb).ll 0 _ rfl, (HI.ab hb).ll 1 _ rfl, (HI.ab hb).ll 2 _ rfl, (HI.ab hb).ll 3 _ rfl, (HI.ab hb).ll 4 _ rfl, (HI.ab hb).ll 5 _ rfl⟩
         rw [Io, hd] at h9
         exact h9
        have M6 : Hid (∀ z : Int, z = z → (.agg #[.slice B g.img.length cc, .int .i64 g.pg, .slice D g.ar.length d, .bool g.aF, .int .i64 g.be, .slice P g.az.length r] : Value) = .agg #[.slice B g.img.length cc, .int .i64 g.pg, .slice D wl d, .bool false, .int .i64 g.be, .slice P g.az.length r]) := fun _ _ => by rw [Io, hd]
        have Yj : Hid (∀ W', bW wr W' → Calls prog 81 #[.agg #[.int .i64 (fi : Int), .int .i64 (bl : Int), .slice Q j cq, .slice none 0 0, .slice Qs raw.length cs, .int .i64 seq, .int .i64 gf, .int .i64 slot, .slice none 0 0, .slice none 0 0, .int .i64 0, .int .i64 (-1), .int .i64 0, .int .i64 0, .bool false], .agg #[.slice B g.img.length cc, .int .i64 g.pg, .slice D wl d, .bool false, .int .i64 g.be, .slice P g.az.length r], .int .i64 (b : Int), .int .i64 (jj : Int)] W' fun e w' => e = .returned (.int .i64 (P0 : Int)) ∧ bW wr w') := by
         intro W' dO
         rw [← M6 0 rfl]
         refine (OV ⟨B, cc, D, d, P, r⟩ g fi bl fi Q j cq Qs raw.length cs seq gf slot b jj W' rfl oM oM oM uw (by rw [Jz]; exact QD)).mono ?_
         rintro e w' ⟨rfl, oL⟩
         refine ⟨?_, dO.trans (oL.mono dO.size)⟩
         rw [HK, Jz, FF]
        obtain ⟨PT, hPT⟩ := ex (P0 + t)
        have pz : Hid (∀ W', bW wr W' → Calls prog 79 #[.agg #[.slice B g.img.length cc, .int .i64 g.pg, .slice D wl d, .bool false, .int .i64 g.be, .slice P g.az.length r], .int .i64 (PT : Int)] W' fun e w' => ∃ A' n' c', e = .returned (.tuple #[.slice A' n' c', .int .i64 0]) ∧ (aB g PT).length = n' ∧ n' ≤ c' ∧ c' ≤ maxLen ∧ cn (fun b => u16.ownBlock = some b) w' A' (ag .u8 (aB g PT)) ∧ bW wr w') := by
         intro W' dO
         rw [← M6 0 rfl]
         have hr := HR.high (HI.below.trans (dO.mono HI.below.size)) (Y := fun b => u16.ownBlock = some b) (fun b hb => (XS.own.lt b hb).1)
         have Du := yw hr (fun b hb => Nat.lt_of_lt_of_le (XS.own.lt b hb).2 dO.size) (PT : Int)
         rw [qO hd (by rw [Io, Jz]; omega)] at Du
         refine Du.mono ?_
         rintro e w' ⟨A', n', c', rfl, h1, h2, h3, h4, oL⟩
         exact ⟨A', n', c', rfl, h1, h2, h3, h4, dO.trans (oL.mono dO.size)⟩
        have t1 : IntKind.i64.wrap ((P0 : Int) + (t : Int)) = (PT : Int) := by
         rw [show (P0 : Int) + (t : Int) = (PT : Int) by omega]
         exact bf _ oM oM
        have k0 := iO wr.drew (Below.drew bV)
        have PO := iD hPT
        have U2 : Hid ((bT g P0 t).length = t) := by unfold bT; simp [Hid]
        obtain ⟨i23, aat, VA, Vz, Vy⟩ := info_parts zN
        clear hPT
        go_upto_region 30 with (fail)
        go_region_held (fun W' => W'.cell? ⟨w5.heap.size, 0, none⟩ = some (.int .i64 (fi : Int)) ∧ W'.cell? ⟨w5.heap.size, 1, none⟩ = some (.int .i64 (bl : Int)) ∧ W'.cell? ⟨w5.heap.size, 2, none⟩ = some (.slice Q j cq) ∧ W'.cell? ⟨w5.heap.size, 3, none⟩ = some (.slice none 0 0) ∧ W'.cell? ⟨w5.heap.size, 4, none⟩ = some (.slice Qs raw.length cs) ∧ W'.cell? ⟨w5.heap.size, 5, none⟩ = some (.int .i64 seq) ∧ W'.cell? ⟨w5.heap.size, 6, none⟩ = some (.int .i64 gf) ∧ W'.cell? ⟨w5.heap.size, 7, none⟩ = some (.int .i64 slot) ∧ W'.cell? ⟨w5.heap.size, 8, none⟩ = some (.slice none 0 0) ∧ W'.cell? ⟨w5.heap.size, 9, none⟩ = some (.slice none 0 0) ∧ W'.cell? ⟨w5.heap.size, 10, none⟩ = some (.int .i64 0) ∧ W'.cell? ⟨w5.heap.size, 11, none⟩ = some (.int .i64 (-1)) ∧ W'.cell? ⟨w5.heap.size, 12, none⟩ = some (.int .i64 0) ∧ W'.cell? ⟨w5.heap.size, 13, none⟩ = some (.int .i64 0) ∧ W'.cell? ⟨w5.heap.size, 14, none⟩ = some (.bool false) ∧ W'.cell? ⟨w.heap.size, 0, none⟩ = some (.slice B g.img.length cc) ∧ W'.cell? ⟨w.heap.size, 1, none⟩ = some (.int .i64 g.pg) ∧ W'.cell? ⟨w.heap.size, 2, none⟩ = some (.slice D wl d) ∧ W'.cell? ⟨w.heap.size, 3, none⟩ = some (.bool false) ∧ W'.cell? ⟨w.heap.size, 4, none⟩ = some (.int .i64 g.be) ∧ W'.cell? ⟨w.heap.size, 5, none⟩ = some (.slice P g.az.length r)) (first | exact k0 | exact k3 | exact k4) (first
         | (go_at_call 81; with_reducible refine (Yj.out _ (Below.drew bV)).mono ?_; rintro e w3 ⟨rfl, gV⟩; have k3 := iO.out w3 gV)
         | (go_at_call 79; with_reducible refine (pz.out _ gV).mono ?_; rintro e w4 ⟨A4, n4, c4, rfl, h41, h42, h43, Oy, iI⟩; have k4 := iO.out w4 iI))
        have XR := iD (XS.ab iI)
        have HI4 := iD (HI.ab iI)
        have EG := XR.own
        rw [U2] at EG
        have XV := iD EG
        have Rs := iD Oy
        have HH4 := iD (And.intro h41 (And.intro h42 h43))
        clear EG gV iI Oy k0 t1 h41 h42 h43
        go_wp2_with (at_builtin; refine aN _ rfl _ _ 41 rfl w.heap.size 32 i23 (.slice none 0 0) 1 24 underlying41 aat VA Vz Vy rfl oM _ t vs rfl (aC XV (bV.alloc cV _)) (w4.heap.size + 1) _ 1 1 [.slice A4 n4 c4] rfl (Rd.new w4 _ _ _ rfl) rfl (by simp [Value.oneCell']) (by unfold maxLen; omega) oM (by have := HI4.below.size; simp; omega) ?_)
        intro v' w8 hown8 hgrow8 hat8
        have abi : Hid (Jp w w8 v' (vs ++ [.slice A4 n4 c4]) (bT g P0 (t + 1))) := by
         have e : bT g P0 (t + 1) = bT g P0 t ++ [aB g PT] := by
          unfold bT
          rw [List.range_succ, List.map_append, ← PO]
          rfl
         rw [Hid, e]
         exact XR.push Rs HH4.1 HH4.2.1 HH4.2.2 (by rw [U2]; exact hown8) hgrow8 (by rw [World.size_alloc]; exact hat8)
        have PX := iD ((HI4.ab (bV.alloc cV _)).beside (aC XV (bV.alloc cV _)) hgrow8)
        clear hown8 hgrow8 hat8
        go_wp2
        go_roundw
        case rel => exact ⟨t + 1, _, oM, by go_num, abi, PX⟩
        case measure => simp [intOf]; omega
       obtain rfl : t = K := oM
       have U2 := iD (BY g P0 t)
       have EG := XS.own
       rw [U2] at EG
       obtain ⟨A9, c9, rfl, h91, h92, _⟩ := a9 EG
       have NB := iD (Mh A9 t c9 (bT g P0 t) wr XS.rd U2 h91 h92 (fun p hp => by
        unfold bT at hp
        obtain ⟨i, _, rfl⟩ := List.mem_map.1 hp
        exact tO HR.ok _))
       obtain ⟨⟨ds, dv, de⟩, hdq⟩ := ex (fg (bT g P0 t))
       have ZE : Hid (fg (bT g (aG s g b jj) s.k) = (ds, dv, de)) := by rw [Hid, Ru, zl]; exact hdq
       rw [hdq] at NB
       clear hdq EG
       go_wp2_with (fail)
       refine NB.mono ?_
       rintro e w7 ⟨A7, c7, rfl, Nl, jB⟩
       simp only at Nl ⊢
       have GZ := iD (HI.ab jB)
       have X4 : Hid (w7.ownsRow w.heap.size 3 1 (.slice A7 dv.length c7) dv.length (aA dv)) := mT Nl HI.below.size
       have r5 := GZ.row 5 _ rfl
       clear Nl jB
       by_cases c1 : de = 0
       rotate_left
       ·have Rr := iD (zi.no ZE (.inl c1))
        have e1 : (de != 0) = true := by simpa using c1
        clear c1
        go_wp2
        go_roundw
        case rel => exact ⟨jj + 1, cs, Qs, raw, seq, gf, slot, oM, by go_num, GZ, by rw [dR, Jv]; exact Rr⟩
        case measure => simp [intOf]; omega
       have e1 : (de != 0) = false := by simpa using c1
       by_cases c2 : dv.length = j
       rotate_left
       ·have Rr := iD (zi.no ZE (.inr (.inl (by rw [J5.2, nr]; exact c2))))
        have e2 : ((dv.length : Int) != (j : Int)) = true := by simp; omega
        clear c2
        generalize dv.length = dl at *
        go_wp2
        go_roundw
        case rel => exact ⟨jj + 1, cs, Qs, raw, seq, gf, slot, oM, by go_num, GZ, by rw [dR, Jv]; exact Rr⟩
        case measure => simp [intOf]; omega
       have e2 : ((j : Int) != (j : Int)) = false := by simp
       by_cases c3 : ds ≤ seq
       ·have Rr := iD (zi.no ZE (.inr (.inr (by rw [← zi.rq]; exact c3))))
        rw [c2]
        go_wp2
        go_roundw
        case rel => exact ⟨jj + 1, cs, Qs, raw, seq, gf, slot, oM, by go_num, GZ, by rw [dR, Jv]; exact Rr⟩
        case measure => simp [intOf]; omega
       have Zo := iD (zi.yes ZE (by
        rintro (h | h | h)
        ·exact h c1
        ·exact h (by rw [J5.2, nr]; exact c2)
        exact c3 (by rw [zi.rq]; exact h)))
       have h5 := GZ.cell 5 (.int .i64 ds) (Qs' := Qs) (cs' := cs) (raw' := raw) (seq' := ds) (blk' := gf) (slot' := slot) rfl GZ.sv
       have h6 := h5.cell 6 (.int .i64 (b : Int)) (Qs' := Qs) (cs' := cs) (raw' := raw) (seq' := ds) (blk' := b) (slot' := slot) rfl h5.sv
       have h7 := h6.cell 7 (.int .i64 (jj : Int)) (Qs' := Qs) (cs' := cs) (raw' := raw) (seq' := ds) (blk' := b) (slot' := jj) rfl h6.sv
       have h4 := h7.cell 4 (.slice A7 dv.length c7) (Qs' := A7) (cs' := c7) (raw' := dv) (seq' := ds) (blk' := b) (slot' := jj) rfl (h6.other _ _ (h5.other _ _ (GZ.other _ _ X4)))
       have HIY := iD h4
       have r4 := GZ.row 4 _ rfl
       have r6 := GZ.row 6 _ rfl
       have r7 := GZ.row 7 _ rfl
       have f4 := GZ.fz 4
       have f5 := GZ.fz 5
       have f6 := GZ.fz 6
       have f7 := GZ.fz 7
       rw [c2] at HIY ⊢
       clear h4 h5 h6 h7
       go_wp2
       go_roundw
       case rel => exact ⟨jj + 1, c7, A7, dv, ds, b, jj, oM, by go_num, HIY, by rw [dR, Jv]; exact Zo⟩
       case measure => simp [intOf]; omega
     obtain rfl : jj = T := oM
     go_wp2
     go_roundw
     case rel => exact ⟨b + 1, cs, Qs, raw, seq, gf, slot, oM, by go_num, HI, by rw [fa]; exact zi⟩
     case measure => simp [intOf]; omega
   obtain rfl : b = bl := oM
   obtain ⟨s, hs⟩ := ex (cR g T s0 b)
   rw [hs] at zi
   have uS : Kp s0 s := by rw [← hs]; exact mU _ _ _ _
   have J5 : Hid (s.first = fi ∧ s.aa = b ∧ s.aw = sp) := ⟨uS.f.trans (by rw [← xZ]; rfl), uS.b.trans (by rw [← xZ]; rfl), uS.s.trans (by rw [← xZ]; rfl)⟩
   have Jv := iD hs
   have UW : Hid (raw.length = sp.length) := zi.rl.trans (by rw [J5.2.2])
   clear hs uS
   go_wp2
   go_loopw [162] (fun i wr => ∃ t : Nat, t ≤ j ∧ i = .int .i64 t ∧ qC w wr w.heap.size (w.heap.size + 1) w5.heap.size ⟨B, cc, D, d, P, r⟩ g fi b Q j cq sp Qs cs (uR sp raw t) seq gf slot) (fun i _ => j - (intOf i).toNat)
   case atStart => exact ⟨0, Nat.zero_le _, rfl, by rw [K3]; exact HI⟩
   case round =>
    obtain ⟨t, ht, rfl, hI⟩ := hrel
    have HI := iD hI
    clear hI
    by_cases hltt : t < j
    ·obtain ⟨p, hp⟩ := getElem?_of_lt (l := sp) (k := t) (by rw [nr]; exact hltt)
     obtain ⟨y, hy⟩ := getElem?_of_lt (l := raw) (k := t) (by rw [UW, nr]; exact hltt)
     obtain ⟨ba, off, rfl, c0, c1, c2⟩ := (HA.below HI.below cV).Gf hp
     have ib : (uR sp raw t).length = j := by rw [Gq UW (by rw [nr]; omega)]; exact nr
     have J4 := iD (K8 UW hy hp)
     have kg := R8 UW hy
     obtain ⟨lg, QH⟩ := ex (uR sp raw t)
     rw [QH] at HI ib J4 kg
     have fL := HI.sv
     rw [ib] at fL
     obtain ⟨A', c', e', _, _, hgs⟩ := a9 fL
     injection e' with e1 _ e3
     subst e1 e3
     obtain ⟨gs, rfl, _, _⟩ := hgs oM
     obtain ⟨W, hW⟩ := ex (wr.alloc (.cells #[.int .i64 p.lo, .int .i64 p.hi, .int .i64 p.df] 132))
     have gg : Hid (bW wr W) := by rw [← hW]; exact bV.alloc cV _
     have d0 : W.cell? ⟨wr.heap.size, 0, none⟩ = some (.int .i64 p.lo) := by rw [← hW]; exact bO _ _ _ _ _ _ rfl rfl
     have d1 : W.cell? ⟨wr.heap.size, 1, none⟩ = some (.int .i64 p.hi) := by rw [← hW]; exact bO _ _ _ _ _ _ rfl rfl
     have d2 : W.cell? ⟨wr.heap.size, 2, none⟩ = some (.int .i64 p.df) := by rw [← hW]; exact bO _ _ _ _ _ _ rfl rfl
     have MX := iD (HI.ab gg)
     have r4 := MX.row 4 _ rfl
     rw [ib] at r4
     have hyc : W.cell? ⟨gs, t, none⟩ = some (.int .i64 y) := by
      have uu := MX.sv
      rw [ib] at uu
      rw [uu.cellAt t oM]
      simp [aA, kg]
     have hyf : W.frozen? ⟨gs, t, none⟩ = false := MX.sv.frozenAt _
     have Bo := iD kg
     clear QH fL kg hy hp
     go_upto_region 41 with (fail)
     try rw [hW]
     clear hW c0 c1 c2
     have hc : y < p.lo ∨ (¬ y < p.lo ∧ p.hi < y) ∨ (¬ y < p.lo ∧ ¬ p.hi < y) := oM
     rcases hc with e1 | ⟨e1, e2⟩ | ⟨e1, e2⟩
     ·have Ya : Hid (ey p y = p.df) := by unfold ey iz; rw [Hid, decide_eq_false oM]; rfl
      have dd : decide (y < p.lo) = true := decide_eq_true e1
      clear e1
      go_quiet (fail)
      go_wp2
      have ij := iD ((MX.ab (Below.drewN bV nq)).Qf t p.df)
      go_roundw
      case rel => exact ⟨t + 1, oM, by go_num, by rw [J4, Ya]; exact ij⟩
      case measure => simp [intOf]; omega
     ·have Ya : Hid (ey p y = p.df) := by unfold ey iz; rw [Hid, decide_eq_false oM]; rfl
      have dd : decide (y < p.lo) = false := decide_eq_false e1
      have dd2 : decide (p.hi < y) = true := decide_eq_true e2
      clear e1 e2
      go_quiet (fail)
      go_wp2
      have ij := iD ((MX.ab (Below.drewN bV nq)).Qf t p.df)
      go_roundw
      case rel => exact ⟨t + 1, oM, by go_num, by rw [J4, Ya]; exact ij⟩
      case measure => simp [intOf]; omega
     have Ya : Hid (ey p y = y) := by unfold ey iz; rw [Hid, decide_eq_true oM]; rfl
     have dd : decide (y < p.lo) = false := decide_eq_false e1
     have dd2 : decide (p.hi < y) = false := decide_eq_false e2
     clear e1 e2
     go_quiet (fail)
     go_wp2
     have ij := iD (MX.ab (Below.drewN bV nq))
     go_roundw
     case rel => exact ⟨t + 1, oM, by go_num, by rw [J4, Ya, zt Bo]; exact ij⟩
     case measure => simp [intOf]; omega
    obtain rfl : t = j := oM
    have Iq : uR sp raw t = s.saved := by
     have h1 := Oh UW
     rw [nr] at h1
     rw [h1]
     have h2 := zi.rg
     rw [J5.2.2] at h2
     exact h2
    rw [Iq] at HI
    have xY : Hid (s.saved.length = t) := by
     rw [Hid, ← Iq, Gq UW (by rw [nr]; exact Nat.le_refl _)]
     exact nr
    have fL := HI.sv
    rw [xY] at fL
    have xX := iD (mn fL)
    have uF : Hid ((aA s.saved).length = t * 1) := by rw [Hid, cj, xY, Nat.mul_one]
    have r4 := HI.row 4 _ rfl
    rw [xY] at r4
    have r4a := (HI.ab (bI wr (.cells #[] 3))).row 4 _ rfl
    rw [xY] at r4a
    clear fL Iq
    go_wp2_with (at_builtin; refine aN _ rfl _ _ 33 rfl w.heap.size 3 i3 (.int .i64 0) 1 8 underlying33 vS kB jN la rfl oM _ 0 [] rfl (World.ownsRow_lit wr #[] 0 HI.below.size nR rfl) wr.heap.size _ t cs (aA s.saved) rfl (xX.below ((Below.refl wr.heap.size wr).alloc cV _) cV) uF (cZ .i64 _) (by unfold maxLen; omega) oM (by have := HI.below.size; simp; omega) ?_)
    intro v9 w9 hown9 hgrow9 _
    have kU : w9.ownsRow w.heap.size 3 1 v9 t (aA s.saved) := by simpa using hown9
    have oL : bW wr w9 := ((Below.refl wr.heap.size wr).alloc cV _).grown hgrow9 (by simp) (fun k hk => by have hk' : some wr.heap.size = some k := hk; injection hk'; omega)
    have ij := iD (HI.ab oL)
    obtain ⟨Q2, c2, rfl, h21, h22, _⟩ := a9 kU
    have xd := iD kU
    have r0 := ij.row 0 _ rfl
    have z0 := ij.pQ 0 _ rfl
    have f0 := ij.o8.frozenAt 0
    have r1 := ij.row 1 _ rfl
    have z1 := ij.pQ 1 _ rfl
    have f1 := ij.o8.frozenAt 1
    have r2 := ij.row 2 _ rfl
    have z2 := ij.pQ 2 _ rfl
    have f2 := ij.o8.frozenAt 2
    have r3 := ij.row 3 _ rfl
    have z3 := ij.pQ 3 _ rfl
    have f3 := ij.o8.frozenAt 3
    have r4 := ij.row 4 _ rfl
    have z4 := ij.pQ 4 _ rfl
    have f4 := ij.o8.frozenAt 4
    have r5 := ij.row 5 _ rfl
    have z5 := ij.pQ 5 _ rfl
    have f5 := ij.o8.frozenAt 5
    have r6 := ij.row 6 _ rfl
    have z6 := ij.pQ 6 _ rfl
    have f6 := ij.o8.frozenAt 6
    have r7 := ij.row 7 _ rfl
    have z7 := ij.pQ 7 _ rfl
    have f7 := ij.o8.frozenAt 7
    have r8 := ij.row 8 _ rfl
    have z8 := ij.pQ 8 _ rfl
    have f8 := ij.o8.frozenAt 8
    have r9 := ij.row 9 _ rfl
    have z9 := ij.pQ 9 _ rfl
    have f9 := ij.o8.frozenAt 9
    have yy := ij.row 10 _ rfl
    have AV := ij.pQ 10 _ rfl
    have f10 := ij.o8.frozenAt 10
    have AY := ij.row 11 _ rfl
    have Kb := ij.pQ 11 _ rfl
    have f11 := ij.o8.frozenAt 11
    have uP := ij.row 12 _ rfl
    have NK := ij.pQ 12 _ rfl
    have f12 := ij.o8.frozenAt 12
    have xK := ij.row 13 _ rfl
    have Ka := ij.pQ 13 _ rfl
    have f13 := ij.o8.frozenAt 13
    have tN := ij.row 14 _ rfl
    have Ha := ij.pQ 14 _ rfl
    have f14 := ij.o8.frozenAt 14
    have fD := ij.fz 3
    rw [xY] at r4
    have ab3 : w.heap.size + 1 ≠ w5.heap.size := by have := tn.out; omega
    have ab2 : w5.heap.size ≠ w.heap.size + 1 := by have := tn.out; omega
    have HD8 : Hid (w.heap.size ≤ w.heap.size + 1) := Nat.le_succ _
    have HD9 : Hid (w.heap.size ≤ w5.heap.size) := Nat.le_of_lt (by have := tn.out; omega)
    have abz := iD ij.below
    have uD : Hid (aJ g fi b sp = { s with aj := s.saved }) := by
     unfold aJ
     rw [Hid, xZ, nr, HK, Jz, HT, Jv]
    have Dq : Hid (t ≤ cs ∧ cs ≤ maxLen ∧ t ≤ cq ∧ cq ≤ maxLen ∧ t ≤ c2 ∧ c2 ≤ maxLen) := by
     have uu := ij.sv
     rw [xY] at uu
     obtain ⟨A', c', e', a1, a2, _⟩ := a9 uu
     injection e' with _ _ e3
     subst e3
     exact ⟨a1, a2, Dv, A0, h21, h22⟩
    clear hown9 hgrow9 kU oL
    go_wp2
    (try simp only [Exit.inBlock, Exit.then])
    refine bodyPost_ret (v := .tuple #[.agg #[.int .i64 (fi : Int), .int .i64 (b : Int), .slice Q t cq, .slice Q2 t c2, .slice Qs t cs, .int .i64 seq, .int .i64 gf, .int .i64 slot, .slice none 0 0, .slice none 0 0, .int .i64 0, .int .i64 (-1), .int .i64 0, .int .i64 0, .bool false], .int .i64 0]) ?_ rfl ⟨_, by rw [P2], ?_, fun _ => ?_, fun h => absurd P2.out h⟩
    ·rw [results_cell_tmp rfl]
     go_simp
    ·repeat (refine Below.setCell ?_ HD8 _)
     exact abz.setCell (p := ⟨w5.heap.size, 3, none⟩) HD9 _
    suffices key : ∀ W', ah (fun z => X z ∨ z = w5.heap.size ∨ z = w.heap.size + 1) w9 W' → Zg X W' (.agg #[.int .i64 (fi : Int), .int .i64 (b : Int), .slice Q t cq, .slice Q2 t c2, .slice Qs t cs, .int .i64 seq, .int .i64 gf, .int .i64 slot, .slice none 0 0, .slice none 0 0, .int .i64 0, .int .i64 (-1), .int .i64 0, .int .i64 0, .bool false]) (aJ g fi b sp) by
     refine key _ ?_
     repeat (refine ah.trans ?_ (ah.set _ _ _ (.inr (.inr rfl))))
     exact ah.set _ ⟨w5.heap.size, 3, none⟩ _ (.inr (.inl rfl))
    intro W' hO
    rw [uD]
    have UF : ∀ (e : TypeId) (size k : Nat) (v : Value) (xs : List Value), w9.ownsRow w.heap.size e size v k xs → (43 : TypeId) ≠ e → ∀ z, v.ownBlock = some z → ¬ (X z ∨ z = w5.heap.size ∨ z = w.heap.size + 1) := by
     intro e size k v xs ho gB z hz hx
     rcases hx with hx | hx | hx
     ·have := HX z hx
      have := (ho.lt z hz).1
      omega
     ·exact aL ij.o ho gB z (by rw [hx]; rfl) hz
     exact aL ij.o8 ho gB z (by rw [hx]; rfl) hz
    have hn : ∀ (W : World) (A : Option Addr) (xs : List Value), cn (fun z => X z ∨ z = w5.heap.size ∨ z = w.heap.size + 1) W A xs → cn X W A xs := fun W A xs h => h.dS (fun z _ h => .inl h)
    have Sl := ij.sv
    rw [xY] at Sl
    refine ⟨Q, cq, Q2, c2, Qs, cs, ?_, ?_, ?_, Dq.2.2.2.1, ?_, ?_, Dq.2.2.2.2.2, ?_, ?_, Dq.2.1⟩
    ·simp only [J5.out.1, J5.out.2.1, J5.out.2.2, nr.out, xY.out, zi.out.rq, zi.out.rb, zi.out.rs]
    ·simp only [J5.out.2.2]
     exact hn _ _ _ ((oH ij.sp (UF _ _ _ _ _ ij.sp (by decide))).ao hO)
    ·simp only [J5.out.2.2, nr.out]
     exact Dq.2.2.1
    ·exact hn _ _ _ ((oH xd (UF _ _ _ _ _ xd (by decide))).ao hO)
    ·simp only [xY.out]
     exact Dq.2.2.2.2.1
    ·exact hn _ _ _ ((oH Sl (UF _ _ _ _ _ Sl (by decide))).ao hO)
    simp only [xY.out]
    exact Dq.1
theorem F8 (n : Nat) (hn : n ≤ 1000000) (w : World) : Calls prog 31 #[.int .i64 (n : Int)] w fun e w' => ∃ A c, e = .returned (.slice A 9 c) ∧ 9 ≤ c ∧ c ≤ maxLen ∧ Rd w' w'.heap.size A (bK (aH n)) ∧ bW w w' := by
 obtain ⟨i9, OG, Ey, Ex, Ew⟩ := info_parts zM
 have h3 : (3 : Nat) ≤ maxLen := by unfold maxLen; omega
 go_enter func31, ntmps31
 go_wp2
 obtain ⟨W, hW⟩ := ex (w.alloc (.cells #[.int .i64 0, .int .i64 1, .int .i64 0, .int .i64 0, .int .i64 2, .int .i64 2, .int .i64 0, .int .i64 3, .int .i64 0] 132))
 have gg : Hid (bW w W) := by rw [← hW]; exact bV.alloc cV _
 have ue : Hid (W.ownsRow w.heap.size 132 3 (.slice (some ⟨w.heap.size, 0, none⟩) 3 3) 3 (bK ((aH n).take 3))) := by
  rw [← hW]
  exact World.ownsRow_lit w #[.int .i64 0, .int .i64 1, .int .i64 0, .int .i64 0, .int .i64 2, .int .i64 2, .int .i64 0, .int .i64 3, .int .i64 0] 3 cV h3 rfl
 rw [hW]
 clear hW
 go_loopw [3, 8] (fun v i wr => ∃ j : Nat, j ≤ 2 ∧ i = .int .i64 j ∧ wr.ownsRow w.heap.size 132 3 v (3 + 3 * j) (bK ((aH n).take (3 + 3 * j))) ∧ bW w wr) (fun _ i _ => 2 - (intOf i).toNat)
 case atStart => exact ⟨0, oM, rfl, ue, gg⟩
 case round =>
  obtain ⟨j, hj, rfl, hO, hB⟩ := hrel
  obtain ⟨A1, c1, rfl, h4, h5, h6⟩ := a9 hO
  have HO := iD hO
  have HB := iD hB
  clear hO hB h6
  by_cases aY : j < 2
  ·have pz := iD (Rd.new wr #[.int .i64 0, .int .i64 1073741824, .int .i64 0, .int .i64 0, .int .i64 n, .int .i64 0, .int .i64 0, .int .i64 4294967295, .int .i64 0] 132 (bK (vz n)) rfl)
   have mB : Hid ((wr.alloc (.cells #[.int .i64 0, .int .i64 1073741824, .int .i64 0, .int .i64 0, .int .i64 n, .int .i64 0, .int .i64 0, .int .i64 4294967295, .int .i64 0] 132)).ownsRow w.heap.size 132 3 (.slice A1 (3 + 3 * j) c1) (3 + 3 * j) (bK ((aH n).take (3 + 3 * j)))) := aC HO (bV.alloc cV _)
   have U5 := iD (CF n j aY)
   have Bl : Hid (w.heap.size ≤ wr.heap.size) := HB.size
   go_wp2_with (at_builtin; refine aN _ rfl _ _ 40 rfl w.heap.size 132 i9 (.agg #[.int .i64 0, .int .i64 0, .int .i64 0]) 3 24 underlying40 OG Ey Ex Ew rfl oM _ (3 + 3 * j) (bK ((aH n).take (3 + 3 * j))) rfl mB.out (wr.heap.size + 1) _ 3 3 (bK (vz n)) rfl pz.out rfl (mR _) (by unfold maxLen; omega) oM (by rw [World.size_alloc]; have := Bl.out; omega) ?_)
   intro v' w2 bY hgrow kg
   have gh : Hid (bW w w2) := (HB.out.alloc HB.out.size _).grown hgrow (by rw [World.size_alloc]; have := Bl.out; omega) (fun k hk => (mB.out.lt k hk).1)
   rw [← pK, ← U5] at bY
   have se := iD bY
   clear bY hgrow kg
   go_wp2
   go_roundw
   case rel => exact ⟨j + 1, oM, by go_num, se, gh⟩
   case measure => simp [intOf]; omega
  have JQ : j = 2 := oM
  subst JQ
  have H4 : Hid (3 + 3 * 2 ≤ c1) := h4
  have H5 := iD h5
  clear h4 h5
  go_wp2
  go_ret
  exact ⟨A1, c1, rfl, H4, H5, ku HO, HB⟩
theorem Gb (A : Option Addr) (n c : Nat) (b : List Int) (w : World) (hA : Rd w w.heap.size A (ag .u8 b)) (hn : b.length = n) (hm : n ≤ 64) :
 Calls prog 29 #[.slice A n c] w fun e w' => ∃ A' c', e = .returned (.slice A' 64 c') ∧ w'.ownsRow w.heap.size 5 1 (.slice A' 64 c') 64 (ag .u8 (gd b)) ∧ bW w w' := by
 obtain ⟨i5, rS, jd, jc, jb⟩ := info_parts kz
 have HP : Hid (gd b = b ++ List.replicate (64 - n) 255) := by rw [Hid]; unfold gd; rw [hn]
 have HN := iD hn
 have HA := iD hA
 have nR : 0 ≤ maxLen := Nat.zero_le _
 clear hA hn
 go_enter func29, ntmps29
 go_wp2_with (first | (at_builtin; refine aN _ rfl _ _ 32 rfl w.heap.size 5 i5 (.int .u8 0) 1 1 underlying32 rS jd jc jb rfl oM _ 0 [] rfl (World.ownsRow_lit w #[] 0 cV nR rfl) w.heap.size _ n _ (ag .u8 b) rfl (HA.below (bV.alloc cV _) cV) (by rw [aD, HN, Nat.mul_one]) (cZ _ _) (by unfold maxLen; omega) oM (by simp) ?_))
 intro v1 w1 bY hgrow kg
 have yh : Hid (bW w w1) := ((Below.refl w.heap.size w).alloc cV _).grown hgrow (by simp) (fun k hk => by have hk' : some w.heap.size = some k := hk; injection hk'; omega)
 try simp only [Nat.zero_add, List.nil_append] at bY
 have iL := iD bY
 clear bY hgrow kg
 go_wp2
 go_loopw [3] (fun v wr => ∃ j : Nat, n + j ≤ 64 ∧ wr.ownsRow w.heap.size 5 1 v (n + j) (ag .u8 (b ++ List.replicate j 255)) ∧ bW w wr) (fun v _ => 64 - (match v with | .slice _ m _ => m | _ => 0))
 case atStart => exact ⟨0, oM, by simpa using iL.out, yh.out⟩
 case round =>
  obtain ⟨j, hj, hO, hB⟩ := hrel
  obtain ⟨A1, c1, rfl, h1, h2, h3⟩ := a9 hO
  have HO := iD hO
  have HB := iD hB
  clear hO hB h3
  by_cases aY : n + j < 64
  ·have pz := iD (Rd.new wr #[.int .u8 255] 5 (ag .u8 [255]) rfl)
   have mB : Hid ((wr.alloc (.cells #[.int .u8 255] 5)).ownsRow w.heap.size 5 1 (.slice A1 (n + j) c1) (n + j) (ag .u8 (b ++ List.replicate j 255))) := aC HO (bV.alloc cV _)
   have Bl : Hid (w.heap.size ≤ wr.heap.size) := HB.size
   have zi : Hid (b ++ List.replicate (j + 1) 255 = b ++ List.replicate j 255 ++ [255]) := by rw [Hid, List.append_assoc, ← List.replicate_succ']
   go_wp2_with (at_builtin; refine aN _ rfl _ _ 32 rfl w.heap.size 5 i5 (.int .u8 0) 1 1 underlying32 rS jd jc jb rfl oM _ (n + j) (ag .u8 (b ++ List.replicate j 255)) rfl mB.out (wr.heap.size + 1) _ 1 1 (ag .u8 [255]) rfl pz.out rfl (cZ _ _) (by unfold maxLen; omega) oM (by rw [World.size_alloc]; have := Bl.out; omega) ?_)
   intro v' w2 bY hgrow kg
   have gh : Hid (bW w w2) := (HB.out.alloc HB.out.size _).grown hgrow (by rw [World.size_alloc]; have := Bl.out; omega) (fun k hk => (mB.out.lt k hk).1)
   rw [← dp, ← zi] at bY
   obtain ⟨A2, c2, rfl, h4, h5, h6⟩ := a9 bY
   have se := iD bY
   clear bY hgrow kg h6
   go_wp2
   go_roundw
   case rel => exact ⟨j + 1, oM, se, gh⟩
   case measure => simp; omega
  have JQ : n + j = 64 := oM
  have HE : Hid (j = 64 - n) := by rw [Hid]; omega
  rw [JQ] at HO ⊢
  clear h1 h2
  go_wp2
  go_ret
  exact ⟨A1, c1, rfl, by have := HO.out; rw [HE.out, ← HP.out] at this; exact this, HB.out⟩
section
variable {X : Nat → Prop} {w : World} {x : Rc} {g : Fl}
theorem uM (h : ca X w x g) (k : Nat) (hk : k ≤ 8) (bl : Int) (cB : bl = ((2 * k + 2 : Nat) : Int)) (w2 : World) :
 Calls prog 25 #[x.v g, .int .i64 bl] w2 fun e w' => e = .returned (.int .i64 (aM g (2 * k + 2) : Nat)) ∧ bW w2 w' := by
 have iA : g.pg ≤ 16 := h.ok.p2
 have HS : Hid (((aM g (2 * k + 2) : Nat) : Int) = (k : Int) * (g.pg : Int) * 64) := by
  rw [Hid]; unfold aM
  rw [show (2 * k + 2 - 2) / 2 = k by omega]
  push_cast
  rfl
 have h1 : (k : Int) * (g.pg : Int) ≤ 128 := by
  have h2 := Nat.mul_le_mul hk iA
  have h3 : ((k * g.pg : Nat) : Int) ≤ 128 := oM
  push_cast at h3
  exact h3
 have h0 : (0 : Int) ≤ (k : Int) * (g.pg : Int) := Int.mul_nonneg oM oM
 have q1 : (bl - 2).tdiv 2 = k := by rw [cB, Int.tdiv_eq_ediv_of_nonneg oM]; omega
 have q1' : (bl - 2) / 2 = k := by rw [cB]; omega
 have q0 : IntKind.i64.wrap (bl - 2) = bl - 2 := IntWalk.i64_in _ oM
 have q2 : IntKind.i64.wrap ((k : Int) * (g.pg : Int)) = (k : Int) * (g.pg : Int) := IntWalk.i64_in _ oM
 have q3 : IntKind.i64.wrap ((k : Int) * (g.pg : Int) * 64) = (k : Int) * (g.pg : Int) * 64 := IntWalk.i64_in _ oM
 have Wy : 4 ≤ bl + 2 ∧ bl ≤ 18 := oM
 obtain ⟨dC, dP⟩ := Wy
 have uJ := iD cB
 obtain ⟨B, cc, D, d, P, r⟩ := x
 show Calls prog 25 #[.agg #[.slice B g.img.length cc, .int .i64 g.pg, .slice D g.ar.length d, .bool g.aF, .int .i64 g.be, .slice P g.az.length r], _] w2 _
 obtain ⟨n1, e1⟩ := ex g.img.length
 obtain ⟨n2, e2⟩ := ex g.ar.length
 obtain ⟨n3, e3⟩ := ex g.az.length
 rw [e1, e2, e3]
 generalize g.pg = P0 at *
 generalize g.aF = dn at *
 generalize g.be = fu at *
 clear h cB e1 e2 e3
 go_enter func25, ntmps25
 go_wp2
 go_ret
 exact ⟨by rw [HS]; rfl, bI _ _⟩
theorem uN (h : ca X w x g) (k a s : Nat) (hk : k ≤ 8) (hs : s ≤ 1) (ha : a ≤ 64) (fi bl si : Int) (lk : fi = a) (cB : bl = ((2 * k + 2 : Nat) : Int)) (Co : si = s) (w2 : World) :
 Calls prog 28 #[x.v g, .int .i64 fi, .int .i64 bl, .int .i64 si] w2 fun e w' => e = .returned (.int .i64 (((a + 2 + s * k) * g.pg : Nat) : Int)) ∧ bW w2 w' := by
 have iA : g.pg ≤ 16 := h.ok.p2
 have VQ : s * k ≤ 8 := by have := Nat.mul_le_mul hs hk; omega
 obtain ⟨T, hT⟩ := ex (s * k)
 rw [hT] at VQ
 have q1 : si * (bl - 2) = 2 * (T : Int) := by
  rw [Co, cB, ← hT]
  rw [show ((2 * k + 2 : Nat) : Int) - 2 = 2 * (k : Int) by omega]
  push_cast
  rw [Int.mul_left_comm]
 have q0 : IntKind.i64.wrap (bl - 2) = bl - 2 := IntWalk.i64_in _ oM
 have q2 : IntKind.i64.wrap (si * (bl - 2)) = 2 * (T : Int) := by rw [q1]; exact IntWalk.i64_in _ oM
 have q3 : (2 * (T : Int)).tdiv 2 = T := by rw [Int.tdiv_eq_ediv_of_nonneg oM]; omega
 have q3' : (2 * (T : Int)) / 2 = T := oM
 have q4 : IntKind.i64.wrap (fi + 2) = fi + 2 := IntWalk.i64_in _ oM
 have q5 : IntKind.i64.wrap (fi + 2 + (T : Int)) = fi + 2 + (T : Int) := IntWalk.i64_in _ oM
 have h1 : (fi + 2 + (T : Int)) * (g.pg : Int) = (((a + 2 + T) * g.pg : Nat) : Int) := by rw [lk]; push_cast; rfl
 have h2 : (a + 2 + T) * g.pg ≤ 74 * 16 := Nat.mul_le_mul oM iA
 have q6 : IntKind.i64.wrap ((fi + 2 + (T : Int)) * (g.pg : Int)) = (fi + 2 + (T : Int)) * (g.pg : Int) := IntWalk.i64_in _ (by rw [h1]; omega)
 have SO : 0 ≤ fi ∧ fi ≤ 64 := oM
 obtain ⟨Cx, Nr⟩ := SO
 have HR := iD h1
 rw [hT]
 obtain ⟨B, cc, D, d, P, r⟩ := x
 show Calls prog 28 #[.agg #[.slice B g.img.length cc, .int .i64 g.pg, .slice D g.ar.length d, .bool g.aF, .int .i64 g.be, .slice P g.az.length r], _, _, _] w2 _
 obtain ⟨n1, e1⟩ := ex g.img.length
 obtain ⟨n2, e2⟩ := ex g.ar.length
 obtain ⟨n3, e3⟩ := ex g.az.length
 rw [e1, e2, e3]
 generalize g.pg = P0 at *
 generalize g.aF = dn at *
 generalize g.be = fu at *
 clear h lk cB Co e1 e2 e3 h1 h2 hT hs hk ha
 go_enter func28, ntmps28
 go_wp2
 go_ret
 exact ⟨by rw [← HR]; rfl, bI _ _⟩
theorem sB (h : ca X w x g) (first aa : Int) (Cx : dI first) (dC : dI aa) (w2 : World) :
 Calls prog 24 #[x.v g, .int .i64 first, .int .i64 aa] w2 fun e w' => e = .returned (.int .i64 (eC g first aa)) ∧ bW w2 w' := by
 have kC : g.ar.length ≤ 64 := h.ok.b2
 have iA : g.pg ≤ 16 := h.ok.p2
 obtain ⟨B, cc, D, d, P, r⟩ := x
 show Calls prog 24 #[.agg #[.slice B g.img.length cc, .int .i64 g.pg, .slice D g.ar.length d, .bool g.aF, .int .i64 g.be, .slice P g.az.length r], _, _] w2 _
 have HR := iD (rfl : eC g first aa = eC g first aa)
 obtain ⟨n1, e1⟩ := ex g.img.length
 obtain ⟨N, hN⟩ := ex g.ar.length
 obtain ⟨n3, e3⟩ := ex g.az.length
 obtain ⟨P0, hP⟩ := ex g.pg
 obtain ⟨fu, hfu⟩ := ex g.be
 obtain ⟨dn, qo⟩ := ex g.aF
 unfold dI at Cx dC
 rw [hN] at kC
 rw [hP] at iA
 unfold eC
 rw [e1, hN, e3, hP, hfu, qo]
 clear h HR e1 hN e3 hP hfu qo
 by_cases hd : dn = true
 ·rw [iP hd]
  subst hd
  go_enter func24, ntmps24
  go_wp2
  go_ret
  exact ⟨rfl, bI _ _⟩
 have kW : dn = false := by simpa using hd
 rw [iN hd]
 subst kW
 clear hd
 by_cases hb : aa % 2 ≠ 0 ∨ aa < 4 ∨ 18 < aa
 ·rw [iP hb]
  by_cases h4 : aa < 4
  ·clear hb
   go_enter func24, ntmps24
   go_wp2
   go_ret
   exact ⟨rfl, bI _ _⟩
  by_cases h18 : 18 < aa
  ·clear hb
   go_enter func24, ntmps24
   go_wp2
   go_ret
   exact ⟨rfl, bI _ _⟩
  have hm : aa % 2 ≠ 0 := oM
  rcases (nF aa).2 hm with ht | ht
  all_goals
   clear hb hm
   go_enter func24, ntmps24
   go_wp2
   go_ret
   exact ⟨rfl, bI _ _⟩
 rw [iN hb]
 have dP : aa % 2 = 0 ∧ ¬ aa < 4 ∧ ¬ 18 < aa := oM
 have ht := (nF aa).1 dP.1
 obtain ⟨aaK, aaJ, aaI⟩ := dP
 have Sn : IntKind.i64.wrap ((N : Int) - aa) = (N : Int) - aa := IntWalk.i64_in _ oM
 clear hb
 by_cases hi : first < 0
 ·rw [iP (.inl hi)]
  go_enter func24, ntmps24
  go_wp2
  go_ret
  exact ⟨rfl, bI _ _⟩
 by_cases UB : (N : Int) - aa < first
 ·rw [iP (.inr UB)]
  go_enter func24, ntmps24
  go_wp2
  go_ret
  exact ⟨rfl, bI _ _⟩
 rw [iN oM]
 by_cases hp : P0 < 2
 ·rw [iP hp]
  have Dw : (P0 : Int) < 2 := oM
  go_enter func24, ntmps24
  go_wp2
  go_ret
  exact ⟨rfl, bI _ _⟩
 rw [iN hp]
 have Dw : ¬ (P0 : Int) < 2 := oM
 go_enter func24, ntmps24
 go_wp2
 go_ret
 exact ⟨rfl, bI _ _⟩
end
structure Bk where
 first : Nat
 aa : Nat
 st : St
 af : Bool
 slot : Nat
 au : Bool
 dst : Nat
 version : Int
 length : Nat
 cH : Nat
 erase : List Int
 page : Nat
 data : Option (List Int)
 bh : Bool
 deriving Inhabited
def Bk.k (b : Bk) : Nat := (b.aa - 2) / 2
def cE (b : Bk) (s : Nat) : Nat := b.first + 2 + s * b.k
def aV (b : Bk) (i : Nat) : Int := b.st.saved[i]?.getD 0
def bQ (b : Bk) : Bool := !b.erase.isEmpty || b.data.isSome || b.bh
def aq (b : Bk) (f : Fl) : Bk := { b with af := b.af || f.aF }
def fv (f : Fl) (b : Bk) (s n : Nat) : List Int := (f.img.drop (64 * (cE b s * f.pg))).take n
def dD (s : St) (i : Nat) : List Int → St
 | [] => s
 | v :: l => dD (aU s i v) (i + 1) l
def ls (s : St) (i : Nat) : List Int → Prop
 | [] => True
 | v :: l => ga s i v = 0 ∧ ls (aU s i v) (i + 1) l
def cy (b : Bk) (f : Fl) : Bk × Fl × Int × Int :=
 if (aq b f).af = true then (aq b f, f, 0, 20) else if b.slot ≠ 2 then (aq b f, f, 0, 12) else
 if aV b 1 = 2 then ({ aq b f with slot := (aV b 0).toNat }, f, aV b 0, 0) else
 let s := if 0 < aV b 2 then aU b.st 2 (aV b 2 - 1) else aU b.st 1 2
 let run := if 0 < aV b 2 then aV b 1 else aV b 0
 if (ay s f).2.2 ≠ 0 then ({ aq b f with st := (ay s f).1, af := true }, (ay s f).2.1, 0, 20)
 else ({ aq b f with st := (ay s f).1, slot := run.toNat }, (ay s f).2.1, run, 0)
def cz (b : Bk) (f : Fl) (v n : Int) : Bk × Int :=
 if (aq b f).af = true then (aq b f, 20) else if b.slot = 2 ∨ aV b 1 ≠ 2 ∨ b.au = true then (aq b f, 12) else
 if bQ b = true then (aq b f, 14) else if ¬ (1 ≤ v ∧ v ≤ 1073741824) ∨ ¬ (1 ≤ n ∧ n ≤ (aM f b.aa : Nat)) then (aq b f, 3) else
 ({ aq b f with au := true, dst := 1 - (aV b 0).toNat, version := v, length := n.toNat, cH := 0, erase := (List.range b.k).map fun i => ((cE b (1 - (aV b 0).toNat) + i : Nat) : Int) }, 0)
def dH (b : Bk) (f : Fl) (x : List Int) : Bk × Int :=
 if (aq b f).af = true then (aq b f, 20) else if b.au = false ∨ b.cH = b.length then (aq b f, 12) else
 if bQ b = true then (aq b f, 14) else if x.length ≠ min 64 (b.length - b.cH) then (aq b f, 11) else
 ({ aq b f with page := cE b b.dst * f.pg + b.cH / 64, data := some (gd x), cH := b.cH + x.length }, 0)
def jw (b : Bk) (s : St) (f : Fl) : Bk := { b with st := aZ s f, bh := if aO s f = 0 then true else b.bh }
def fZ (b : Bk) (c : Int) : St := dD (dD b.st (3 + 3 * b.dst) [b.version, (b.length : Int), c]) 1 [(b.dst : Int), 3]
def bX (b : Bk) (f : Fl) (c : Int) : Bk × Int :=
 if (aq b f).af = true then (aq b f, 20) else if b.au = false ∨ b.cH ≠ b.length then (aq b f, 12) else
 if bQ b = true then (aq b f, 14) else if eS (fv f b b.dst b.length) ≠ c then ({ aq b f with au := false }, 19) else
 (jw { aq b f with au := false } (fZ b c) f, 0)
def ej (b : Bk) (f : Fl) : Bk × Int :=
 if (aq b f).af = true then (aq b f, 20) else if b.au = false then (aq b f, 12) else
 ({ aq b f with au := false, erase := [], data := none }, 0)
def kO (b : Bk) : St := dD b.st 0 [(b.slot : Int), 2, 0]
def bJ (b : Bk) (f : Fl) : Bk × Int :=
 if (aq b f).af = true then (aq b f, 20) else if b.slot = 2 ∨ aV b 1 ≠ b.slot then (aq b f, 12) else
 if bQ b = true then (aq b f, 14) else (jw (aq b f) (kO b) f, 0)
def aK (b : Bk) (f : Fl) : Bk × Fl × Bool × Int :=
 if (aq b f).af = true then (aq b f, f, false, 20) else
 match b.erase with
 | e :: l => if (aR f e).2 ≠ 0 then ({ aq b f with af := true }, (aR f e).1, false, 20)
  else ({ aq b f with erase := l }, (aR f e).1, !bQ { b with erase := l }, 0)
 | [] => match b.data with
  | some d => if (bz f b.page d).2 ≠ 0 then ({ aq b f with af := true }, (bz f b.page d).1, false, 20)
   else ({ aq b f with data := none }, (bz f b.page d).1, !bQ { b with data := none }, 0)
  | none => if b.bh = true then
   (if (aI b.st f).2.2.2 ≠ 0 then ({ aq b f with st := (aI b.st f).1, af := true }, (aI b.st f).2.1, false, 20)
    else ({ aq b f with st := (aI b.st f).1, bh := !(aI b.st f).2.2.1 }, (aI b.st f).2.1, (aI b.st f).2.2.1, 0))
   else (aq b f, f, true, 0)
def dr (b : Bk) (f : Fl) (s : Int) : Bk × List Int × Int :=
 if (aq b f).af = true then (aq b f, [], 20) else if ¬ (0 ≤ s ∧ s ≤ 1) then (aq b f, [], 10) else
 if aV b (4 + 3 * s.toNat) = 0 ∨ (b.au = true ∧ (b.dst : Int) = s) then (aq b f, [], 12) else
 if eS (fv f b s.toNat (aV b (4 + 3 * s.toNat)).toNat) ≠ aV b (5 + 3 * s.toNat) then (aq b f, [], 19) else
 (aq b f, fv f b s.toNat (aV b (4 + 3 * s.toNat)).toNat, 0)
def qg (s : St) (first aa : Nat) : Bk := ⟨first, aa, s, false, 2, false, 0, 0, 0, 0, [], 0, none, false⟩
def dU (f : Fl) (first aa : Int) : Int :=
 if eC f first aa ≠ 0 then eC f first aa else
 let s := aJ f first.toNat 2 (aH (aM f aa.toNat))
 if s.saved[4 + 3 * (s.saved[0]?.getD 0).toNat]?.getD 0 = 0 then 12 else 0
def dh (f : Fl) (first aa : Int) : Bk := qg (aJ f first.toNat 2 (aH (aM f aa.toNat))) first.toNat aa.toNat
def Rg (N : Nat) (v : List Int) : Prop :=
 ∃ a t k v0 l0 c0 v1 l1 c1 : Nat, v = [(a : Int), (t : Int), (k : Int), (v0 : Int), (l0 : Int), (c0 : Int), (v1 : Int), (l1 : Int), (c1 : Int)] ∧ a ≤ 1 ∧ t ≤ 2 ∧ k ≤ 3 ∧ v0 ≤ 1073741824 ∧ l0 ≤ N ∧ c0 < 4294967296 ∧ v1 ≤ 1073741824 ∧ l1 ≤ N ∧ c1 < 4294967296
theorem mW {hi : Int} (h0 : 0 ≤ x) (h1 : x ≤ hi) : ∃ n : Nat, x = n ∧ (n : Int) ≤ hi := ⟨x.toNat, oM, oM⟩
theorem iV {p : eB} (hb : fy p = false) (h : ey p x = x) : p.lo ≤ x ∧ x ≤ p.hi := by
 unfold ey at h
 split at h
 ·rename_i h2
  unfold iz at h2
  simpa using h2
 unfold fy at hb
 simp only [decide_eq_false_iff_not] at hb
 omega
theorem RL {N : Nat} {v : List Int} (h : Lg (aH N) v) (hl : v.length = 9) : Rg N v := by
 match v, hl with
 | [a, t, k, v0, l0, c0, v1, l1, c1], _ =>
  unfold Lg ez aH at h
  simp only [List.zipWith_cons_cons, List.zipWith_nil_left, List.cons.injEq, and_true] at h
  obtain ⟨h1, h2, h3, h4, h5, h6, h7, h8, h9⟩ := h
  have q1 := iV (p := ⟨0, 1, 0⟩) rfl h1
  have q2 := iV (p := ⟨0, 2, 2⟩) rfl h2
  have q3 := iV (p := ⟨0, 3, 0⟩) rfl h3
  have q4 := iV (p := ⟨0, 1073741824, 0⟩) rfl h4
  have q5 := iV (p := ⟨0, N, 0⟩) (by unfold fy; simp only [decide_eq_false_iff_not]; omega) h5
  have q6 := iV (p := ⟨0, 4294967295, 0⟩) rfl h6
  have q7 := iV (p := ⟨0, 1073741824, 0⟩) rfl h7
  have q8 := iV (p := ⟨0, N, 0⟩) (by unfold fy; simp only [decide_eq_false_iff_not]; omega) h8
  have q9 := iV (p := ⟨0, 4294967295, 0⟩) rfl h9
  simp only at q1 q2 q3 q4 q5 q6 q7 q8 q9
  obtain ⟨a', rfl, _⟩ := mW q1.1 q1.2
  obtain ⟨t', rfl, _⟩ := mW q2.1 q2.2
  obtain ⟨k', rfl, _⟩ := mW q3.1 q3.2
  obtain ⟨v0', rfl, _⟩ := mW q4.1 q4.2
  obtain ⟨l0', rfl, _⟩ := mW q5.1 q5.2
  obtain ⟨c0', rfl, _⟩ := mW q6.1 q6.2
  obtain ⟨v1', rfl, _⟩ := mW q7.1 q7.2
  obtain ⟨l1', rfl, _⟩ := mW q8.1 q8.2
  obtain ⟨c1', rfl, _⟩ := mW q9.1 q9.2
  exact ⟨a', t', k', v0', l0', c0', v1', l1', c1', rfl, oM, oM, oM, oM, oM, oM, oM, oM, oM⟩
structure bU (f : Fl) (b : Bk) : Prop where
 ok : bC f b.st
 sp : b.st.aw = aH (aM f b.aa)
 fi : b.st.first = b.first
 bl : b.st.aa = 2
 lg : Lg b.st.aw b.st.saved
 br : b.st.af = false ∨ b.af = true
 bk : b.aa = 2 * b.k + 2
 k1 : 1 ≤ b.k
 k8 : b.k ≤ 8
 fw : b.first + b.aa ≤ f.ar.length
 pg : 2 ≤ f.pg
 slot : b.slot ≤ 2
 dst : b.dst ≤ 1
 DV : 0 ≤ b.version ∧ b.version ≤ 1073741824
 len : b.length ≤ aM f b.aa
 cH : b.cH ≤ b.length
 er : ∀ e ∈ b.erase, 0 ≤ e ∧ e < 64
 dt : ∀ d, b.data = some d → d.length = 64 ∧ Bytes d
 page : b.page < 1024
theorem bU.vec {b : Bk} (h : bU f b) : Rg (aM f b.aa) b.st.saved := by
 have hl := h.lg
 rw [h.sp] at hl
 refine RL hl ?_
 rw [h.ok.sl, h.sp]
 rfl
section
variable {w0 w : World} {L : Lc} {S : Sc} {f : Fl} {s : St}
theorem IM (h : bB w0 w L f) (n : Int) (yU : -9223372036854775808 ≤ n) (qY : n < 9223372036854775808) (A : Option Addr) (m c : Nat) (p : List Int) (hA : Rd w w.heap.size A (ag .u8 p)) (hm : p.length = m) (JP : m ≤ 140737488351232) (hp : Bytes p) :
 Calls prog 48 #[.pointer (some ⟨L.d, 0, none⟩), .int .i64 n, .slice A m c] w fun e w' => e = .returned (.tuple #[]) ∧ (∃ Ap cp, bB w0 w' { L with Ap := Ap, cp := cp } (fM f n p) ∧ ∀ X : Nat → Prop, (∀ b, X b → b < w.heap.size) → cn X w' Ap (ag .u8 p)) ∧ cA L w w' := by
 have h1 := gO L.d
 have HC := iD (kQ A m c w.heap.size p w hA cV hm JP)
 have H := iD h
 have HM := iD hm
 have HP := iD hp
 clear h hA hm hp
 go_enter func48, ntmps48
 go_wp2_with (fail)
 refine HC.mono ?_
 rintro e w1 ⟨v', rfl, ho, hb⟩
 obtain ⟨A', c', rfl, g1, g2, g3⟩ := a9 ho
 have h2 := H.ab hb
 have c4 := h2.c4
 have c5 := h2.c5
 have f4 := h2.fz 4
 have f5 := h2.fz 5
 have QU : gA L w1 A' (ag .u8 p) := by
  intro gB
  have nR : 0 < m := by
   rw [← HM]
   cases p with
   | nil => simp [ag] at gB
   | cons x r => simp
  obtain ⟨g, rfl, q1, q2⟩ := g3 nR
  obtain ⟨b, off, e, aY, hc⟩ := ku ho gB
  obtain ⟨rfl, rfl⟩ : g = b ∧ 0 = off := by simpa using e
  have hd := H.ld
  have hi := H.bi.2
  have hw := H.bw.2
  exact ⟨g, 0, rfl, q2, oM, oM, oM, hc⟩
 have YM : ∀ X : Nat → Prop, (∀ b, X b → b < w.heap.size) → cn (fun b => X b ∨ b = L.d) w1 A' (ag .u8 p) := fun X hX => by
  refine cn.new (N := w.heap.size) (fun b dO => ?_) cV (by rw [aD, HM]) ho
  rcases dO with h | h
  ·exact hX b h
  rw [h]; exact H.ld
 obtain ⟨a1, a2⟩ := h2.fu (max n (-1)) oM oM
 obtain ⟨d1, d2⟩ := a1.pi A' c' p (by rw [HM]; exact g1) g2 HP (QU.only a2)
 rw [HM] at d1 d2
 have HD := iD d1
 have HO : Hid (cA L w _) := ((cA.ak hb).trans a2).trans d2
 have FB : Hid (∀ X : Nat → Prop, (∀ b, X b → b < w.heap.size) → cn X ((w1.setCell ⟨L.d, 4, none⟩ (.int .i64 (max n (-1)))).setCell ⟨L.d, 5, none⟩ (.slice A' m c')) A' (ag .u8 p)) := fun X hX =>
  (((YM X hX).ao (ah.set (X := fun b => X b ∨ b = L.d) w1 ⟨L.d, 4, none⟩ _ (.inr rfl))).ao (ah.set (X := fun b => X b ∨ b = L.d) _ ⟨L.d, 5, none⟩ _ (.inr rfl))).dS (fun b _ h => .inl h)
 clear ho hb g3 h2 QU a1 a2 d1 d2 YM
 go_wp2
 go_end0
 exact ⟨rfl, ⟨A', c', HD, FB⟩, HO⟩
def Started (w0 w : World) (L : Lc) (f : Fl) (e : Ending) (w' : World) : Prop :=
 e = .returned (.tuple #[]) ∧ (∃ Ap cp, bB w0 w' { L with Ap := Ap, cp := cp } (aQ f) ∧ ∀ X : Nat → Prop, cn X w L.Ap (ag .u8 f.az) → cn X w' Ap (ag .u8 (aQ f).az)) ∧ cA L w w'
theorem D9 (h : bB w0 w L f) : Calls prog 50 #[.pointer (some ⟨L.d, 0, none⟩)] w (Started w0 w L f) := by
 have h1 := gO L.d
 have c3 := h.c3
 have c4 := h.c4
 have c5 := h.c5
 have f3 := h.fz 3
 have f4 := h.fz 4
 have f5 := h.fz 5
 by_cases hd : f.aF = true
 ·have HS : Hid (aQ f = { f with aF := false, be := -1, az := [] }) := by unfold aQ; rw [Hid, iP hd]
  obtain ⟨a1, a2⟩ := h.dn false
  obtain ⟨b1, b2⟩ := a1.fu (-1) oM oM
  obtain ⟨d1, d2⟩ := b1.pi none 0 [] cV (Nat.zero_le _) (fun x hx => by simp at hx) (fun hx => absurd rfl hx)
  have HD := iD d1
  have HO : Hid (cA L w _) := (a2.trans b2).trans d2
  rw [hd] at c3
  clear h hd a1 a2 b1 b2 d1 d2
  go_enter func50, ntmps50
  go_wp2
  first
   | go_end0
   | ((try simp only [Exit.inBlock, Exit.then]); refine bodyPost_ret (results_none rfl _ _ _) rfl ?_)
  unfold Started
  rw [HS]
  exact ⟨rfl, ⟨none, 0, HD, fun X _ => cn.nil⟩, HO⟩
 have kW : f.aF = false := by simpa using hd
 have HS : Hid (aQ f = f) := by unfold aQ; rw [Hid, iN hd]
 have H := iD h
 rw [kW] at c3
 clear h hd kW
 go_enter func50, ntmps50
 go_wp2
 first
  | go_end0
  | ((try simp only [Exit.inBlock, Exit.then]); refine bodyPost_ret (results_none rfl _ _ _) rfl ?_)
 unfold Started
 rw [HS]
 exact ⟨rfl, ⟨L.Ap, L.cp, H, fun X h => h⟩, cA.refl _ _⟩
theorem IK (h : bL w0 w L S f s) (n : Int) (hn : dI n) (A : Option Addr) (m c : Nat) (p : List Int) (hA : Rd w w.heap.size A (ag .u8 p)) (hm : p.length = m) (JP : m ≤ 140737488351232) (hp : Bytes p) :
 Calls prog 48 #[.pointer (some ⟨L.d, 0, none⟩), .int .i64 n, .slice A m c] w fun e w' => e = .returned (.tuple #[]) ∧ (∃ Ap cp, bL w0 w' { L with Ap := Ap, cp := cp } S (fM f n p) s) ∧ ah (bS L S) w w' := by
 refine (IM h.fl n hn.1 hn.2 A m c p hA hm JP hp).mono ?_
 rintro e w' ⟨rfl, ⟨Ap, cp, hf, hr⟩, ho⟩
 exact ⟨rfl, ⟨Ap, cp, h.LP hf ho (hr _ h.cY)⟩, .ka ho (bS.fl L S)⟩
theorem D6 (h : bL w0 w L S f s) :
 Calls prog 50 #[.pointer (some ⟨L.d, 0, none⟩)] w fun e w' => e = .returned (.tuple #[]) ∧ (∃ Ap cp, bL w0 w' { L with Ap := Ap, cp := cp } S (aQ f) s) ∧ ah (bS L S) w w' := by
 refine (D9 h.fl).mono ?_
 rintro e w' ⟨rfl, ⟨Ap, cp, hf, hr⟩, ho⟩
 exact ⟨rfl, ⟨Ap, cp, h.LP hf ho (hr _ h.pk)⟩, .ka ho (bS.fl L S)⟩
end
theorem yr : ∀ (l : List Int) (s : St) (i : Nat) (x : Int), dD s i (l ++ [x]) = aU (dD s i l) ((i + l.length : Nat) : Int) x
 | [], s, i, x => rfl
 | v :: l, s, i, x => by
  show dD (aU s i v) (i + 1) (l ++ [x]) = _
  rw [yr l (aU s i v) (i + 1) x, show i + 1 + l.length = i + (v :: l).length by simp; omega]
  rfl
theorem vp : ∀ (l : List Int) (s : St) (i : Nat) (x : Int), ls s i (l ++ [x]) ↔ ls s i l ∧ ga (dD s i l) ((i + l.length : Nat) : Int) x = 0
 | [], s, i, x => by
  show (ga s i x = 0 ∧ True) ↔ (True ∧ ga s ((i + 0 : Nat) : Int) x = 0)
  simp
 | v :: l, s, i, x => by
  show (ga s i v = 0 ∧ ls (aU s i v) (i + 1) (l ++ [x])) ↔ _
  rw [vp l (aU s i v) (i + 1) x, show i + 1 + l.length = i + (v :: l).length by simp; omega, ← and_assoc]
  rfl
theorem vo {i : Nat} : ∀ {l : List Int} {k : Nat} {x : Int}, ls s i l → l[k]? = some x → ga (dD s i (l.take k)) ((i + k : Nat) : Int) x = 0 ∧ dD s i (l.take (k + 1)) = aU (dD s i (l.take k)) ((i + k : Nat) : Int) x := by
 intro l k x h hx
 have hk := (List.getElem?_eq_some_iff.1 hx).1
 have hl : (l.take k).length = k := by rw [List.length_take]; omega
 have e := bA l k x hx
 refine ⟨?_, by rw [e, yr, hl]⟩
 have h1 : ls s i (l.take (k + 1)) := by
  clear e hl hx
  induction l generalizing s i k with
  | nil => simp; exact trivial
  | cons v l ih =>
   rw [List.take_succ_cons]
   refine ⟨h.1, ?_⟩
   cases k with
   | zero => rw [List.take_zero]; exact trivial
   | succ k => exact ih h.2 (by simpa using hk)
 rw [e, vp, hl] at h1
 exact h1.2
theorem lu {f : Fl} : ∀ {l : List Int} {s : St} {i : Nat}, bC f s → (∀ x ∈ l, dI x) → bC f (dD s i l)
 | [], s, i, h, hl => h
 | v :: l, s, i, h, hl => lu (l := l) (eH h (hl v (by simp))) (fun x hx => hl x (by simp [hx]))
section
variable {w0 w w' : World} {L : Lc} {f : Fl}
theorem cA.ZZ (h : cA L w w1) (k : ah (bS L S) w1 w2) (hD : w.heap.size ≤ S.D) (hG : w.heap.size ≤ S.G) : cA L w w2 :=
 ⟨Nat.le_trans h.size k.size, fun n hn a b c => (k.block n (Nat.lt_of_lt_of_le hn h.size) (fun hx => by rcases hx with e | e | e | e | e <;> omega)).trans (h.block n hn a b c)⟩
theorem EW (h : bB w0 w L f) (bi : Int) (B : Nat) (hbi : bi = B) : Calls prog 60 #[.pointer (some ⟨L.d, 0, none⟩), .int .i64 bi] w fun e w' => e = .returned (fx (aR f (B : Int)).2) ∧ bB w0 w' L (aR f (B : Int)).1 ∧ cA L w w' := by
 subst hbi
 exact sU h _
theorem zA (h : bB w0 w L f) (pi : Int) (P : Nat) (VY : pi = P) (A : Option Addr) (m c : Nat) (b : List Int) (hA : gA L w A (ag .u8 b)) (hm : b.length = m) (hc : m ≤ c) (rh : c ≤ maxLen) (hb : Bytes b) :
 Calls prog 62 #[.pointer (some ⟨L.d, 0, none⟩), .int .i64 pi, .slice A m c] w fun e w' => e = .returned (fx (bz f (P : Int) b).2) ∧ bB w0 w' L (bz f (P : Int) b).1 ∧ cA L w w' := by
 subst VY
 exact nJ h _ A m c b hA hm hc rh hb
theorem BH (h : bL w0 w L S f s) (ho : bC f s) (ii : Int) (i : Nat) (Np : ii = i) (v : Int) (he : ga s (i : Int) v = 0) : Calls prog 66 #[.pointer (some ⟨S.D, 0, none⟩), .int .i64 ii, .int .i64 v] w fun e w' => e = .returned .nilIface ∧ bL w0 w' L S f (aU s (i : Int) v) ∧ ah (bS L S) w w' := by
 subst Np
 have := N0 h ho (i : Int) v
 unfold Jn at this
 rw [he, bG] at this
 exact this
theorem GI (h : bB w0 w L f) (hu : f.up) (qH : f.az = []) (a k : Nat) (hk : 1 ≤ k) (jE : k ≤ 8) (hw : a + (2 * k + 2) ≤ f.ar.length) (hp : 2 ≤ f.pg) (v : Int) (hv : 1 ≤ v ∧ v ≤ 1073741824) (A : Option Addr) (n c : Nat) (img : List Int)
 (hA : gA L w A (ag .u8 img)) (hn : img.length = n) (qm : n ≤ c) (fQ : c ≤ maxLen) (hb : Bytes img) (h1 : 1 ≤ n) (h2 : n ≤ aM f (2 * k + 2)) (fi bl : Int) (lk : fi = a) (cB : bl = ((2 * k + 2 : Nat) : Int)) :
 Calls prog 16 #[.pointer (some ⟨L.d, 0, none⟩), .int .i64 fi, .int .i64 bl, .int .i64 v, .slice A n c] w fun e w' => e = .returned .nilIface ∧ bB w0 w' L (iJ f a (2 * k + 2) v (eS img) img).2.1 ∧ cA L w w' := by
 have g1 := ne_nil
 have hsz := ef h.ok jE
 have hC := l6 img
 have kC : f.ar.length ≤ 64 := h.ok.b2
 have iA : f.pg ≤ 16 := h.ok.p2
 have JC := iD h
 obtain ⟨x1, x2, x3, x4, x5, x6, -, -, -, -, -⟩ := wv hu hk jE hw hp hb (by rw [hn]; exact h1) (by rw [hn]; exact h2) hv (c := eS img) ⟨hC.1, by have := hC.2; omega⟩
 have hE : eC f fi bl = 0 := by
  unfold eC
  rw [iN (by rw [hu.dn]; decide), iN oM, iN oM, iN oM]
 have HC := iD (wA h fi bl (by unfold dI; omega) (by unfold dI; omega))
 rw [hE, bG] at HC
 have px := iD (oP h k jE bl cB)
 obtain ⟨N, hN⟩ := ex (aM f (2 * k + 2))
 have HN := iD hN
 have GH : aM (eD f a (2 * k + 2) img) (2 * k + 2) = N := by rw [← hN]; unfold aM; rw [(ig hu hw hk hb (by rw [hn]; exact h2)).2.1]
 have Jt : Hid (∀ W', bB w0 W' L (eD f a (2 * k + 2) img) → Calls prog 59 #[.pointer (some ⟨L.d, 0, none⟩), .int .i64 bl] W' fun e w' => e = .returned (.int .i64 (N : Int)) ∧ W' = w') := fun W' hF => by
  have := oP hF k jE bl cB
  rw [GH] at this
  exact this
 rw [hN] at px h2 hsz x1 x2 x3 x4 x5
 rw [hn] at x4 x5
 have Wj : iJ f a (2 * k + 2) v (eS img) img = ay (dD (aJ (eD f a (2 * k + 2) img) a 2 (aH N)) 3 [v, (n : Int), eS img]) (eD f a (2 * k + 2) img) := by
  unfold iJ xS
  rw [hN, hn]
  rfl
 rw [Wj] at x6 ⊢
 have rN := iD (l5 v 1 1073741824)
 have oW := iD (l5 (n : Int) 1 (N : Int))
 rw [decide_eq_true hv] at rN
 rw [decide_eq_true (show 1 ≤ (n : Int) ∧ (n : Int) ≤ (N : Int) by omega)] at oW
 obtain ⟨gu, gp, gw, gk, -, gr, -, gb⟩ := ig hu hw hk hb (by rw [hn, hN]; exact h2)
 rw [hn] at gr gb
 have HGK : Hid ((eD f a (2 * k + 2) img).az = []) := gk.trans qH
 have U4 := iD gp
 have HGB := iD gb
 have GC := mw hu (a := a) (n := 2 * k + 2) hw
 have yT : (a + 2) * f.pg + ew n ≤ f.ar.length * f.pg := Nat.le_trans gr (Nat.mul_le_mul_right _ oM)
 have nX : f.ar.length * f.pg ≤ 1024 := gx h.ok
 have HEU := iD GC
 have HG : Hid (eD f a (2 * k + 2) img = iS (eh f a (2 * k + 2)) ((a + 2) * f.pg) img (ew n)) := by rw [Hid, ← hn]; rfl
 have FE : Hid (∀ m < ew n, (bz (iS (eh f a (2 * k + 2)) ((a + 2) * f.pg) img m) (((a + 2) * f.pg + m : Nat) : Int) (gd (eQ img m))).2 = 0) :=
  fun m hm => vF GC.up hb (by rw [GC.wl, GC.pg]; exact yT) gb hm
 have Zw : Hid (ls (aJ (eD f a (2 * k + 2) img) a 2 (aH N)) 3 [v, (n : Int), eS img]) := ⟨x3, x4, x5, trivial⟩
 have xZ : Hid (bC (eD f a (2 * k + 2) img) (aJ (eD f a (2 * k + 2) img) a 2 (aH N))) := kv x2 x1
 have HVI : Hid (∀ x ∈ [v, (n : Int), eS img], dI x) := fun x hx => by
  unfold MD at hC
  simp only [List.mem_cons, List.not_mem_nil, or_false] at hx
  rcases hx with rfl | rfl | rfl <;> (unfold dI; omega)
 have X1 := iD x1
 have X2 := iD x2
 have X6 := iD x6
 obtain ⟨Cs, OP⟩ := ex (eS img)
 have UK : 0 ≤ Cs ∧ Cs < 4294967296 := by rw [← OP]; exact hC
 rw [OP] at Zw X6 HVI ⊢
 obtain ⟨P, hP⟩ := ex ((a + 2) * f.pg)
 have hPi : ((a : Int) + 2) * (f.pg : Int) = (P : Int) := by rw [← hP]; push_cast; rfl
 rw [hP] at yT HGB FE HG
 have FJ := iD hn
 have HA := iD hA
 have HB := iD hb
 have HU := iD hu
 have HHW := iD hw
 obtain ⟨K, hK⟩ := ex (2 * k + 2)
 have hKb : 4 ≤ K ∧ K ≤ 18 := oM
 rw [hK] at cB Jt HGK U4 HGB HEU HHW HG FE Zw xZ X1 X6 ⊢
 have DC : (0 : Int) ≤ fi ∧ fi ≤ 64 := oM
 have V6 : ew n * 64 < n + 64 ∧ n ≤ ew n * 64 := by unfold ew; omega
 obtain ⟨np, Lq⟩ := ex (ew n)
 rw [Lq] at V6 yT HGB FE HG
 obtain ⟨aan, aam⟩ := V6
 obtain ⟨aaR, aaQ⟩ := hKb
 obtain ⟨aaz, aay⟩ := DC
 obtain ⟨aaT, aaS⟩ := UK
 have hw' : (a : Int) + K ≤ 64 := oM
 have hP1 : P + np ≤ 1024 := Nat.le_trans yT nX
 have P5 := iD OP
 obtain ⟨G, hG⟩ := ex (eD f a K img)
 rw [hG] at HGK HG U4 Zw xZ X1 X6 Jt ⊢
 have q1 : IntKind.i64.wrap ((a : Int) + 2) = (a : Int) + 2 := IntWalk.i64_in _ oM
 have q2 : IntKind.i64.wrap (((a : Int) + 2) * (f.pg : Int)) = (P : Int) := by rw [hPi]; exact IntWalk.i64_in _ oM
 have q3 : IntKind.i64.wrap Cs = Cs := IntWalk.i64_in _ oM
 unfold maxLen at fQ
 clear h qH hA hn hb hu hE hC gp gw gk gu gb GC hP hN GH kC iA hk jE hw hK gr hPi nX hv hG OP Lq yT Wj x1 x2 x3 x4 x5 x6 hp
 subst lk cB
 go_enter func16, ntmps16
 go_wp2_with (fail)
 refine HC.mono ?_
 rintro e w1 ⟨rfl, rfl⟩
 go_wp2_with (fail)
 refine (rN _).mono ?_
 rintro e w1 ⟨rfl, rfl⟩
 go_wp2_with (fail)
 refine px.mono ?_
 rintro e w1 ⟨rfl, rfl⟩
 go_wp2_with (fail)
 refine (oW _).mono ?_
 rintro e w1 ⟨rfl, rfl⟩
 go_wp2_with (fail)
 go_loopw [41] (fun i wr => ∃ j : Nat, j ≤ K ∧ i = .int .i64 j ∧ bB w0 wr L (eh f a j) ∧ cA L w wr) (fun i _ => K - (intOf i).toNat)
 case atStart => exact ⟨0, Nat.zero_le _, rfl, JC, cA.refl _ _⟩
 case round =>
  obtain ⟨j, hj, rfl, hF, hO⟩ := hrel
  have HF := iD hF
  have HO := iD hO
  clear hF hO
  by_cases aY : j < K
  ·have ny := iD (EW HF ((a : Int) + (j : Int)) (a + j) (by push_cast; rfl))
   rw [tY HU HHW aY, bG] at ny
   go_wp2_with (fail)
   refine ny.mono ?_
   rintro e w2 ⟨rfl, IG, QW⟩
   have uf : Hid (bB w0 w2 L (eh f a (j + 1))) := IG
   have mB : Hid (cA L w w2) := HO.trans QW
   clear IG QW
   go_wp2_with (fail)
   go_roundw
   case rel => exact ⟨j + 1, oM, by go_num, uf, mB⟩
   case measure => simp [intOf]; omega
  have hjK : j = K := oM
  subst hjK
  have jh := iD (ir HF)
  rw [HEU.pg] at jh
  go_wp2_with (fail)
  refine jh.mono ?_
  rintro e w1 ⟨rfl, rfl⟩
  go_wp2_with (fail)
  go_loopw [14] (fun i wr => ∃ m : Nat, m ≤ np ∧ i = .int .i64 m ∧ bB w0 wr L (iS (eh f a j) P img m) ∧ cA L w wr) (fun i _ => np - (intOf i).toNat)
  case atStart => exact ⟨0, Nat.zero_le _, rfl, HF, HO⟩
  case round =>
   obtain ⟨m, hm, rfl, hF, hO⟩ := hrel
   have Dl := iD hF
   have iL := iD hO
   clear hF hO
   by_cases sN : m < np
   ·obtain ⟨bb, off, rfl⟩ : ∃ b off, A = some ⟨b, off, none⟩ := by
     obtain ⟨b, off, e, _⟩ := HA.rd (by
      intro e
      have := aD .u8 img
      rw [e, FJ] at this
      simp at this
      omega)
     exact ⟨b, off, e⟩
    have pz : Hid (Rd wr wr.heap.size (some ⟨bb, off + m * 64, none⟩) (ag .u8 (eQ img m))) := by rw [Hid, Nat.mul_comm m 64]; exact (HA.only iL).rd.part (64 * m) 64
    obtain ⟨M, hM⟩ := ex (min 64 (n - 64 * m))
    have Dp : Hid ((eQ img m).length = M) := by rw [Hid, ju, FJ, hM]
    have CB : 1 ≤ M ∧ M ≤ 64 ∧ 64 * m + M ≤ n := oM
    obtain ⟨hM3, LD, WK⟩ := CB
    have SB : min (n : Int) (((m : Int) + 1) * 64) = (m : Int) * 64 + (M : Int) := oM
    clear hM
    go_wp2_with (fail)
    refine (Gi (some ⟨bb, off + m * 64, none⟩) M (c - m * 64) (eQ img m) wr pz Dp LD).mono ?_
    rintro e w2 ⟨A2, c2, rfl, hO, hB⟩
    obtain ⟨A3, c3, e3, h4, h5, -⟩ := a9 hO
    injection e3 with e31 e32 e33
    subst e31 e33
    have mA := iD (zA (Dl.ab hB) ((P : Int) + (m : Int)) (P + m) (by push_cast; rfl) A2 64 c2 (gd (eQ img m)) (tg Dl (by rw [aD]; exact eR (by rw [Dp]; exact LD)) hO) (eR (by rw [Dp]; exact LD)) h4 h5 (kt (kh HB m)))
    rw [FE m sN, bG] at mA
    have gh : Hid (cA L wr w2) := cA.ak hB
    clear hO hB h4 h5 e32
    go_wp2_with (fail)
    refine mA.mono ?_
    rintro e w3 ⟨rfl, IG, QW⟩
    have AO : Hid (bB w0 w3 L (iS (eh f a j) P img (m + 1))) := IG
    have se : Hid (cA L w w3) := (iL.trans gh).trans QW
    clear IG QW
    go_wp2_with (fail)
    go_roundw
    case rel => exact ⟨m + 1, oM, by go_num, AO, se⟩
    case measure => simp [intOf]; omega
   have hmn : m = np := oM
   subst hmn
   have Dk : Hid (bB w0 wr L G) := by rw [HG]; exact Dl
   go_wp2_with (fail)
   refine (Jt _ Dk).mono ?_
   rintro e w1 ⟨rfl, rfl⟩
   go_wp2_with (fail)
   refine (yV N oM _).mono ?_
   rintro e w2 ⟨As, cs, rfl, gF, je, uv, hB⟩
   have uD := iD (yG (Dk.ab hB) (a : Int) 2 a 2 rfl rfl As 9 cs (aH N) uv rfl gF je X2 X1 (by rw [HGK]; exact cn.nil))
   have mB : Hid (cA L w w2) := iL.trans (cA.ak hB)
   clear gF je uv hB
   go_wp2_with (fail)
   refine uD.mono ?_
   rintro e w3 ⟨S, rfl, hS, hB, hD, hG⟩
   have HS := iD hS
   have se : Hid (cA L w w3) := mB.trans (cA.ak hB)
   have Yo : Hid (w.heap.size ≤ S.D ∧ w.heap.size ≤ S.G) := ⟨Nat.le_trans mB.size hD, Nat.le_trans mB.size hG⟩
   clear hS hB hD hG
   go_wp2_with (fail)
   refine (nZ A n c img w3 (HA.only se).rd FJ HB oM).mono ?_
   rintro e w4 ⟨rfl, q, rfl⟩
   rw [P5]
   have zh := iD (HS.ab (Below.drewN (Below.refl w3.heap.size w3) q))
   have Rw : Hid (cA L w (w3.drewN q)) := se.trans (cA.ak (Below.drewN (Below.refl w3.heap.size w3) q))
   generalize w3.drewN q = W4 at zh Rw ⊢
   go_wp2_with (fail)
   obtain ⟨W5, pM⟩ := ex (W4.alloc (.cells #[.int .i64 v, .int .i64 n, .int .i64 Cs] 3))
   have po : bW W4 W5 := by rw [← pM]; exact bV.alloc cV _
   have UY : Hid (cn (bS L S) W5 (some ⟨W4.heap.size, 0, none⟩) (aA [v, (n : Int), Cs])) := by
    rw [← pM]
    refine KC (Rd.new W4 _ _ _ rfl) (by rw [World.size_alloc]; exact Nat.le_refl _) (fun hx => ?_)
    have := zh.cY _ (.inl hx)
    omega
   have HS5 := iD (zh.ab po)
   have MS : Hid (cA L w W5) := Rw.trans (cA.ak po)
   rw [pM]
   clear pM po
   go_loopw [103] (fun i wr => ∃ j : Nat, j ≤ 3 ∧ i = .int .i64 j ∧ bL w0 wr L S G (dD (aJ G a 2 (aH N)) 3 ([v, (n : Int), Cs].take j)) ∧ ah (bS L S) W5 wr) (fun i _ => 3 - (intOf i).toNat)
   case atStart => exact ⟨0, Nat.zero_le _, rfl, HS5, ah.refl _ _⟩
   case round =>
    obtain ⟨r, hr, rfl, hS, hX⟩ := hrel
    have J2 := iD hS
    have Fx := iD hX
    clear hS hX
    by_cases EE : r < 3
    ·obtain ⟨x, hx⟩ := getElem?_of_lt (l := [v, (n : Int), Cs]) (k := r) EE
     obtain ⟨bb, off, e, cB, e0⟩ := (UY.ao Fx).rd.int hx
     injection e with e
     injection e with e1 e2
     subst e1 e2
     rw [Nat.zero_add] at e0
     obtain ⟨t1, t2⟩ := vo Zw hx
     have eX := iD (BH J2 (lu xZ (fun y hy => HVI y (List.mem_of_mem_take hy))) (3 + (r : Int)) (3 + r) (by push_cast; rfl) x t1)
     rw [← t2] at eX
     clear hx cB t1 t2
     go_wp2_with (fail)
     refine eX.mono ?_
     rintro e w7 ⟨rfl, hS, hX⟩
     have Dd := iD hS
     have HX7 : Hid (ah (bS L S) W5 w7) := Fx.trans hX
     clear hS hX
     go_wp2_with (fail)
     go_roundw
     case rel => exact ⟨r + 1, oM, by go_num, Dd, HX7⟩
     case measure => simp [intOf]; omega
    have Oy : r = 3 := oM
    subst Oy
    have Dd : Hid (bL w0 wr L S G (dD (aJ G a 2 (aH N)) 3 [v, (n : Int), Cs])) := J2
    have ug := iD (wM Dd (lu xZ HVI))
    unfold nk at ug
    rw [X6, bG] at ug
    go_wp2_with (fail)
    refine ug.mono ?_
    rintro e w8 ⟨rfl, ⟨S8, hd8, GB, YL⟩, iH⟩
    have HF8 := iD YL.fl
    have ya : Hid (cA L w w8) := MS.ZZ (Fx.trans iH) Yo.1 Yo.2
    clear hd8 GB YL iH
    go_wp2
    go_ret
    exact ⟨rfl, HF8, ya⟩
end
def QS (w : World) (e : TypeId) (B : Nat) (v : Value) (q : List Int) : Prop :=
 (v = .slice none 0 0 ∧ q = []) ∨
 ∃ g off cap cur, v = .slice (some ⟨g, off, none⟩) q.length cap ∧ B ≤ g ∧ w.heap[g]? = some (.cells cur e (0, 0)) ∧ q.length ≤ cap ∧ cap ≤ maxLen ∧ off + cap ≤ cur.size ∧
  ∀ j x, q[j]? = some x → cur[off + j]? = some (.int .i64 x)
theorem QS.kept (h : QS w e B v q) {row : Option Nat} (hg : w.grownBy w' row) (gB : ∀ g, v.ownBlock = some g → row ≠ some g) : QS w' e B v q := by
 rcases h with h | ⟨g, off, cap, cur, rfl, hB, hh, h1, h2, h3, h4⟩
 ·exact .inl h
 refine .inr ⟨g, off, cap, cur, rfl, hB, ?_, h1, h2, h3, h4⟩
 rw [hg.block g (Array.getElem?_eq_some_iff.1 hh).1 (fun e => gB g rfl e.symm)]
 exact hh
theorem QS.lt (h : QS w e B v q) {g : Nat} (hg : v.ownBlock = some g) : B ≤ g ∧ g < w.heap.size := by
 rcases h with ⟨rfl, _⟩ | ⟨g', off, cap, cur, rfl, hB, hh, _⟩
 ·simp [Value.ownBlock] at hg
 simp [Value.ownBlock] at hg
 subst hg
 exact ⟨hB, (Array.getElem?_eq_some_iff.1 hh).1⟩
theorem QS.nil (w : World) (e : TypeId) (B : Nat) : QS w e B (.slice none 0 0) [] := .inl ⟨rfl, rfl⟩
theorem QS.form (h : QS w e B v q) : ∃ A c, v = .slice A q.length c ∧ q.length ≤ c ∧ c ≤ maxLen := by
 rcases h with ⟨rfl, rfl⟩ | ⟨g, off, cap, cur, rfl, _, _, h1, h2, _⟩
 ·exact ⟨none, 0, rfl, Nat.le_refl _, Nat.zero_le _⟩
 exact ⟨_, cap, rfl, h1, h2⟩
theorem QS.front (h : QS w e B v (x :: q)) :
 ∃ g off cap, v = .slice (some ⟨g, off, none⟩) (q.length + 1) cap ∧ q.length + 1 ≤ cap ∧ cap ≤ maxLen ∧ w.cell? ⟨g, off, none⟩ = some (.int .i64 x) ∧
  QS w e B (if cap = 1 then .slice (some ⟨g, off, none⟩) q.length 0 else .slice (some ⟨g, off + 1, none⟩) q.length (cap - 1)) q := by
 rcases h with ⟨_, h⟩ | ⟨g, off, cap, cur, rfl, hB, hh, h1, h2, h3, h4⟩
 ·cases h
 simp only [List.length_cons] at h1
 refine ⟨g, off, cap, rfl, h1, h2, ?_, ?_⟩
 ·rw [cell_of_row w g off cur e (0, 0) hh]
  simpa using h4 0 x rfl
 by_cases hc : cap = 1
 ·subst hc
  have : q = [] := List.eq_nil_of_length_eq_zero oM
  subst this
  rw [iP rfl]
  exact .inr ⟨g, off, 0, cur, rfl, hB, hh, Nat.le_refl _, Nat.zero_le _, oM, fun j y hy => by simp at hy⟩
 rw [iN hc]
 refine .inr ⟨g, off + 1, cap - 1, cur, rfl, hB, hh, oM, oM, oM, fun j y hy => ?_⟩
 rw [show off + 1 + j = off + (j + 1) by omega]
 exact h4 (j + 1) y (by simpa using hy)
section
variable {P : Program} (w : World)
theorem pH (B : Nat) (t ty e : TypeId) (i : TypeInfo) (z : Value) (ht : P.underlying t = some (.slice e)) (hi : P.info? e = some i) (hz : i.zero = some z)
 (gK : i.size = 1) (tX : i.bytes = 8) (Ci : z.cells.size = 1)
 (v : Value) (q : List Int) (hq : QS w e B v q) (x : Int) (ad : Addr) (c : Nat) (hx : w.cell? ad = some (.int .i64 x))
 (hl : q.length + 1 ≤ 1000000000) (hB : B ≤ w.heap.size) :
 ∃ v' w', (Builtin.append_ #[t, t] ty #[v, .slice (some ad) 1 c]).run P w = .ok v' w' ∧ QS w' e B v' (q ++ [x]) ∧ w.grownBy w' v.ownBlock ∧
  (v'.ownBlock = v.ownBlock ∨ v'.ownBlock = some w.heap.size) := by
 have Lr : ∀ j u, [Value.int .i64 x][j]? = some u → w.cell? (ad.add j) = some u := by
  intro j u hu
  match j, hu with
  | 0, hu =>
   simp at hu
   subst hu
   have : ad.add 0 = ad := by unfold Addr.add; simp
   rw [this]
   exact hx
  | j + 1, hu => simp at hu
 have h1 : ∀ u ∈ [Value.int .i64 x], u.oneCell' = true := by
  intro u hu
  simp at hu
  subst hu
  rfl
 have hlen : (q ++ [x]).length = q.length + 1 := by simp
 have grown : ∀ (dZ : Nat) (Oc : List Value), Oc = q.map (Value.int .i64) → ∀ row : Option Nat,
  QS (w.drew.alloc (.cells (Oc.toArray ++ [Value.int .i64 x].toArray ++ Builtin.zeroCells z.cells (grownCap w (q.length + 1) dZ e - (q.length + 1))) e)) e B
   (.slice (some ⟨w.heap.size, 0, none⟩) (q.length + 1) (grownCap w (q.length + 1) dZ e)) (q ++ [x]) ∧
  w.grownBy (w.drew.alloc (.cells (Oc.toArray ++ [Value.int .i64 x].toArray ++ Builtin.zeroCells z.cells (grownCap w (q.length + 1) dZ e - (q.length + 1))) e)) row := by
  rintro dZ Oc rfl row
  have UC := grownCap_ge w (q.length + 1) dZ e
  have fQ : grownCap w (q.length + 1) dZ e ≤ maxLen := grownCap_le_maxLen w (q.length + 1) dZ e (by unfold maxLen; omega)
  refine ⟨.inr ⟨w.heap.size, 0, _, _, by rw [hlen], hB, heap_alloc_new w.drew _, by rw [hlen]; exact UC, fQ, ?_, ?_⟩, ⟨rfl, rfl, rfl, by simp, fun k hk _ => Below.heap_alloc w.drew _ k hk⟩⟩
  ·simp only [Array.size_append, List.size_toArray, List.length_map, List.length_cons, List.length_nil, size_zeroCells, Ci]
   omega
  intro j y hy
  rw [Nat.zero_add]
  have hj : j < q.length + 1 := by
   have := (List.getElem?_eq_some_iff.1 hy).1
   simpa using this
  have e1 : ((q.map (Value.int .i64)).toArray ++ [Value.int .i64 x].toArray ++ Builtin.zeroCells z.cells (grownCap w (q.length + 1) dZ e - (q.length + 1)))[j]? = (((q ++ [x]).map (Value.int .i64)))[j]? := by
   rw [Array.getElem?_append_left (by simp; omega)]
   simp
  rw [e1, List.getElem?_map, hy]
  rfl
 rcases hq with ⟨rfl, rfl⟩ | ⟨g, off, cap, cur, rfl, hBg, hh, hqc, fQ, aca, sO⟩
 ·have hr := run_append_nil (P := P) w t ty e i z ht hi hz ad 1 c [Value.int .i64 x] (by simp [gK]) Lr oM oM (by rw [tX]; omega)
  obtain ⟨g1, g2⟩ := grown 0 [] rfl (Value.ownBlock (.slice none 0 0))
  simp only [List.length_nil, Nat.zero_add, Array.empty_append] at g1 g2
  exact ⟨_, _, hr, by simpa using g1, by simpa using g2, .inr rfl⟩
 by_cases Gw : q.length + 1 ≤ cap
 ·have hf := run_firstCells_some (P := P) w i.size 1 ad 1 c [Value.int .i64 x] (by simp [gK]) Lr
  rw [gK] at hf
  have dX := run_storeCells_at P g (off + q.length) e [Value.int .i64 x] 0 cur w hh (by simp; omega) h1
  simp only [Nat.add_zero] at dX
  refine ⟨.slice (some ⟨g, off, none⟩) (q.length + 1) cap, _, by simp [Builtin.append_, run_underlying ht, sizeOf, typeInfo, hi, Builtin.lenOf, Gw, hf, Addr.add_lit, gK, dX]; rfl, ?_, ?_, .inl rfl⟩
  ·refine .inr ⟨g, off, cap, _, by rw [hlen], hBg, setRow_heap w g cur _ e _ hh, by rw [hlen]; exact Gw, fQ, ?_, ?_⟩
   ·simp only [List.size_toArray, List.length_append, List.length_take, List.length_drop, Array.length_toList, List.length_cons]
    omega
   intro j y hy
   have hj : j < q.length + 1 := by
    have := (List.getElem?_eq_some_iff.1 hy).1
    simpa using this
   rw [List.getElem?_toArray]
   by_cases hjq : j < q.length
   ·rw [List.getElem?_append_left (by simp; omega), List.getElem?_take, iP oM]
    rw [List.getElem?_append_left hjq] at hy
    simpa using sO j y hy
   obtain rfl : j = q.length := oM
   simp at hy
   subst hy
   rw [List.getElem?_append_right (by simp; omega)]
   have : off + q.length - (List.take (off + q.length) cur.toList).length = 0 := by simp; omega
   rw [this]
   rfl
  exact ⟨rfl, rfl, rfl, by simp, fun k _ hk => setRow_other w g k _ (fun e => hk (by simp [Value.ownBlock, e]))⟩
 have holds : ∀ j u, (q.map (Value.int .i64))[j]? = some u → w.cell? ((⟨g, off, none⟩ : Addr).add j) = some u := by
  intro j u hu
  rw [Addr.add_lit, cell_of_row w g (off + j) cur e (0, 0) hh]
  rw [List.getElem?_map] at hu
  obtain ⟨y, hy, rfl⟩ := Option.map_eq_some_iff.1 hu
  exact sO j y hy
 have hr := run_append_grow (P := P) w t ty e i z ht hi hz ⟨g, off, none⟩ q.length cap (q.map (Value.int .i64)) (by simp [gK]) holds ad 1 c [Value.int .i64 x] (by simp [gK]) Lr oM oM (growslice_fits oM (by rw [tX]; omega))
 obtain ⟨g1, g2⟩ := grown cap _ rfl (Value.ownBlock (.slice (some ⟨g, off, none⟩) q.length cap))
 exact ⟨_, _, hr, g1, g2, .inr rfl⟩
end
section
variable {w0 w w' : World} {L : Lc} {S S' : Sc} {f f' : Fl} {s s' : St}
theorem ah.up (h : ah (bS L S) w w') : ah (ea L S) w w' := ⟨h.size, fun k hk hn => h.block k hk (fun h5 => hn (.inl h5))⟩
theorem ah.more (h : ah X w w') (hs : ∀ b, X b → Y b) : ah Y w w' := ⟨h.size, fun k hk hn => h.block k hk (fun h5 => hn (hs k h5))⟩
theorem bL.tag (h : bL w0 w L S f s) (hb : bW w w') (E : Nat → Prop) (hE : ∀ b, E b → b < w'.heap.size) (hN : ∀ b, b < w.heap.size → E b → L.E b) : bL w0 w' { L with E := E } S f s := by
 have h' := h.ab hb
 have hY : ∀ b, b < w.heap.size → ea { L with E := E } S b → ea L S b := fun b aY hy => by
  rcases hy with h5 | he
  ·exact .inl h5
  exact .inr (hN b aY he)
 have sl : Jm (ea { L with E := E } S) w' S s := (h.sl.dS hY).ao (ah.ak (X := ea { L with E := E } S) hb)
 have pk : cn (ea { L with E := E } S) w' L.Ap (ag .u8 f.az) := (h.pk.dS hY).ao (ah.ak (X := ea { L with E := E } S) hb)
 exact ⟨h'.fl.tag E hE, h'.dd, h'.dl, h'.d1, h'.d2, h'.d3, h'.dg, h'.g1, h'.g2, h'.g3, h'.row, h'.fz, h'.sg, sl, pk⟩
theorem bL.aside (h : bL w0 w L S f s) (hY : ∀ b, Y b → L.E b ∧ ¬ bS L S b) (ho : ah Y w w') (hb : bW w0 w') : bL w0 w' L S f s := by
 have hs : ∀ b, Y b → ea L S b := fun b hy => .inr (hY b hy).1
 have h1 : ¬ Y L.d := fun e => (hY _ e).2 (bS.fl L S).1
 have h2 : ¬ Y L.gi := fun e => (hY _ e).2 (bS.fl L S).2.1
 have h3 : ¬ Y L.gw := fun e => (hY _ e).2 (bS.fl L S).2.2
 have h4 : ¬ Y S.D := fun e => (hY _ e).2 (bS.d L S)
 have h5 : ¬ Y S.G := fun e => (hY _ e).2 (bS.g L S)
 have gU : bB w0 w' L f :=
  h.fl.aside hb ho h1 h2 h3 (fun j => cm (ho.block L.d h.fl.ld h1)) (dx h.fl.oi (ho.block L.gi h.fl.bi.2 h2)) (dx h.fl.ow (ho.block L.gw h.fl.bw.2 h3)) ((h.pk.ao ho hs).apart (ea.fl L S))
 exact ⟨gU, h.dd, Nat.lt_of_lt_of_le h.dl ho.size, h.d1, h.d2, h.d3, h.dg, h.g1, h.g2, h.g3, fun j u hu => (cell_of_block (ho.block S.D h.dl h4)).trans (h.row j u hu), fun j => (cm (ho.block S.D h.dl h4)).trans (h.fz j), dx h.sg (ho.block S.G h.gl.2 h5), h.sl.ao ho hs, h.pk.ao ho hs⟩
end
structure Kc where
 D : Nat
 v : Value
 A : Option Addr
 n : Nat
 c : Nat
variable {K : Kc}
def Kc.cells (K : Kc) (d D : Nat) (b : Bk) : List Value :=
 [.pointer (some ⟨d, 0, none⟩), .int .i64 b.first, .int .i64 b.aa, .pointer (some ⟨D, 0, none⟩), .bool b.af, .int .i64 b.slot, .bool b.au, .int .i64 b.dst, .int .i64 b.version, .int .i64 b.length, .int .i64 b.cH,
  K.v, .int .i64 b.page, .slice K.A K.n K.c, .bool b.bh]
def pt (L : Lc) (S : Sc) (K : Kc) (b : Nat) : Prop := bS L S b ∨ b = K.D ∨ K.v.ownBlock = some b
def oC (X : Nat → Prop) (w : World) (K : Kc) : Option (List Int) → Prop
 | none => K.A = none ∧ K.n = 0 ∧ K.c = 0
 | some d => cn X w K.A (ag .u8 d) ∧ d.length = K.n ∧ K.n ≤ K.c ∧ K.c ≤ maxLen
structure bo (w0 w : World) (L : Lc) (S : Sc) (K : Kc) (f : Fl) (b : Bk) : Prop where
 st : bL w0 w L S f b.st
 dd : w0.heap.size ≤ K.D
 nd : ¬ bS L S K.D
 ed : L.E K.D
 row : ∀ j u, (K.cells L.d S.D b)[j]? = some u → w.cell? ⟨K.D, j, none⟩ = some u
 fz : ∀ j, w.frozen? ⟨K.D, j, none⟩ = false
 er : QS w 3 w0.heap.size K.v b.erase
 en : ∀ g, K.v.ownBlock = some g → ¬ bS L S g ∧ g ≠ K.D ∧ L.E g
 dt : oC (ea L S) w K b.data
theorem oC.ao {o : Option (List Int)} (h : oC X w K o) (k : ah X w w') : oC X w' K o := by
 cases o with
 | none => exact h
 | some d => exact ⟨h.1.ao k, h.2⟩
theorem oC.dS {o : Option (List Int)} (h : oC X w K o) (hY : ∀ b, b < w.heap.size → Y b → X b) : oC Y w K o := by
 cases o with
 | none => exact h
 | some d => exact ⟨h.1.dS hY, h.2⟩
section
variable {w0 w w' : World} {L : Lc} {S S' : Sc} {K : Kc} {f f' : Fl} {b : Bk} {s' : St}
theorem bo.lt (h : bo w0 w L S K f b) : K.D < w.heap.size := World.block_lt_of_cell? w _ (h.row 0 _ rfl)
theorem QS.block (h : QS w e B v q) (hb : ∀ g, v.ownBlock = some g → w'.heap[g]? = w.heap[g]?) : QS w' e B v q := by
 rcases h with h | ⟨g, off, cap, cur, rfl, hB, hh, h1, h2, h3, h4⟩
 ·exact .inl h
 exact .inr ⟨g, off, cap, cur, rfl, hB, (hb g rfl).trans hh, h1, h2, h3, h4⟩
theorem bo.ab (h : bo w0 w L S K f b) (hb : bW w w') : bo w0 w' L S K f b :=
 ⟨h.st.ab hb, h.dd, h.nd, h.ed, fun j u hu => (hb.cell (p := ⟨K.D, j, none⟩) h.lt).trans (h.row j u hu), fun j => (hb.frozen (p := ⟨K.D, j, none⟩) h.lt).trans (h.fz j), h.er.block (fun g hg => hb.block g (h.er.lt hg).2), h.en, h.dt.ao (ah.ak hb)⟩
theorem bo.prog (h : bo w0 w L S K f b) (hs : bL w0 w' L S' f' s') (hd : S'.D = S.D) (hg : S'.G = S.G) (ho : ah (bS L S) w w') : bo w0 w' L S' K f' { b with st := s' } := by
 have e := ea.same (L := L) hd hg
 have e5 := bS.same (L := L) hd hg
 refine ⟨hs, h.dd, by rw [e5]; exact h.nd, h.ed, fun j u hu => ?_, fun j => (cm (ho.block _ h.lt h.nd)).trans (h.fz j), h.er.block (fun g hg => ho.block g (h.er.lt hg).2 (h.en g hg).1), fun g hg => by rw [e5]; exact h.en g hg, by rw [e]; exact h.dt.ao ho.up⟩
 have hc : K.cells L.d S'.D { b with st := s' } = K.cells L.d S.D b := by unfold Kc.cells; rw [hd]
 rw [hc] at hu
 exact (cell_of_block (ho.block _ h.lt h.nd)).trans (h.row j u hu)
theorem bo.Vt (h : bo w0 w L S K f b) {Ap : Option Addr} {cp : Nat} (hs : bL w0 w' { L with Ap := Ap, cp := cp } S f' s') (ho : ah (bS L S) w w') : bo w0 w' { L with Ap := Ap, cp := cp } S K f' { b with st := s' } :=
 ⟨hs, h.dd, h.nd, h.ed, fun j u hu => (cell_of_block (ho.block _ h.lt h.nd)).trans (h.row j u hu), fun j => (cm (ho.block _ h.lt h.nd)).trans (h.fz j), h.er.block (fun g hg => ho.block g (h.er.lt hg).2 (h.en g hg).1), h.en, h.dt.ao ho.up⟩
theorem bo.cell (h : bo w0 w L S K f b) (j : Nat) (u : Value) (K' : Kc) (b' : Bk) (e1 : K'.D = K.D) (e2 : b'.st = b.st) (hc : K'.cells L.d S.D b' = (K.cells L.d S.D b).set j u)
 (he : QS w 3 w0.heap.size K'.v b'.erase) (hn : ∀ g, K'.v.ownBlock = some g → ¬ bS L S g ∧ g ≠ K.D ∧ L.E g) (hd : oC (ea L S) w K' b'.data) :
 bo w0 (w.setCell ⟨K.D, j, none⟩ u) L S K' f b' ∧ ah (fun g => g = K.D) w (w.setCell ⟨K.D, j, none⟩ u) := by
 have ho : ah (fun g => g = K.D) w (w.setCell ⟨K.D, j, none⟩ u) := .set w ⟨K.D, j, none⟩ u rfl
 have hb : bW w0 (w.setCell ⟨K.D, j, none⟩ u) := h.st.fl.below.setCell (p := ⟨K.D, j, none⟩) h.dd _
 refine ⟨⟨?_, by rw [e1]; exact h.dd, by rw [e1]; exact h.nd, by rw [e1]; exact h.ed, ?_, ?_, he.block (fun g hg => ho.block g (he.lt hg).2 (hn g hg).2.1), fun g hg => ⟨(hn g hg).1, by rw [e1]; exact (hn g hg).2.1, (hn g hg).2.2⟩, hd.ao (ho.more (fun g hg => .inr (by rw [hg]; exact h.ed)))⟩, ho⟩
 ·rw [e2]
  exact h.st.aside (Y := fun g => g = K.D) (fun g hg => by subst hg; exact ⟨h.ed, h.nd⟩) ho hb
 ·intro i v hv
  rw [e1]
  rw [hc, List.getElem?_set] at hv
  by_cases hij : j = i
  ·subst hij
   rw [iP rfl] at hv
   split at hv
   ·rename_i aY
    injection hv with hv
    subst hv
    exact World.cell?_setCell_same _ _ _ (h.row j _ (List.getElem?_eq_getElem aY))
   cases hv
  rw [iN hij] at hv
  rw [World.cell?_setCell_other _ _ _ _ (by
   intro e
   injection e with _ e
   exact hij e)]
  exact h.row i v hv
 intro i
 rw [e1, World.frozen?_setCell]
 exact h.fz i
theorem bo.jX (h : bo w0 w L S K f b) (j : Nat) (u : Value) (b' : Bk) (e2 : b'.st = b.st) (e3 : b'.erase = b.erase) (e4 : b'.data = b.data) (hc : K.cells L.d S.D b' = (K.cells L.d S.D b).set j u) :
 bo w0 (w.setCell ⟨K.D, j, none⟩ u) L S K f b' ∧ ah (fun g => g = K.D) w (w.setCell ⟨K.D, j, none⟩ u) :=
 h.cell j u K b' rfl e2 hc (by rw [e3]; exact h.er) h.en (by rw [e4]; exact h.dt)
end
structure bZ (w w' : World) (L : Lc) (S : Sc) (K : Kc) (L' : Lc) (S' : Sc) (K' : Kc) : Prop where
 only : ah (pt L S K) w w'
 own : ∀ b, b < w.heap.size → pt L' S' K' b → pt L S K b
 ein : ∀ b, b < w.heap.size → L'.E b → L.E b
 Zb : ∀ b, L.E b → L'.E b
 d : K'.D = K.D
 ld : L'.d = L.d
 gi : L'.gi = L.gi
 gw : L'.gw = L.gw
theorem bZ.refl (w : World) (L : Lc) (S : Sc) (K : Kc) : bZ w w L S K L S K := ⟨ah.refl _ _, fun b _ h => h, fun b _ h => h, fun b h => h, rfl, rfl, rfl, rfl⟩
theorem ah.Kj {a b c : World} (h : ah X a b) (k : ah Y b c) (hs : ∀ n, n < a.heap.size → Y n → X n) : ah X a c :=
 ⟨Nat.le_trans h.size k.size, fun n hn hx => (k.block n (Nat.lt_of_lt_of_le hn h.size) (fun hy => hx (hs n hn hy))).trans (h.block n hn hx)⟩
theorem bZ.trans {L1 L2 : Lc} {S1 S2 : Sc} {K1 K2 : Kc} (h : bZ w w1 L S K L1 S1 K1) (k : bZ w1 w2 L1 S1 K1 L2 S2 K2) : bZ w w2 L S K L2 S2 K2 :=
 ⟨h.only.Kj k.only (fun n hn hy => h.own n hn hy), fun n hn hy => h.own n hn (k.own n (Nat.lt_of_lt_of_le hn h.only.size) hy), fun n hn hy => h.ein n hn (k.ein n (Nat.lt_of_lt_of_le hn h.only.size) hy), fun n hn => k.Zb n (h.Zb n hn), k.d.trans h.d, k.ld.trans h.ld, k.gi.trans h.gi, k.gw.trans h.gw⟩
theorem bZ.ak (h : bW w w') : bZ w w' L S K L S K := ⟨ah.ak h, fun b _ h => h, fun b _ h => h, fun b h => h, rfl, rfl, rfl, rfl⟩
theorem bZ.mV {K' : Kc} (h : ah (fun g => g = K.D) w w') (hd : K'.D = K.D) (hv : ∀ g, g < w.heap.size → K'.v.ownBlock = some g → K.v.ownBlock = some g) : bZ w w' L S K L S K' :=
 ⟨h.more (fun g hg => .inr (.inl hg)), fun b hb h => by
  rcases h with h | h | h
  ·exact .inl h
  ·exact .inr (.inl (by rw [← hd]; exact h))
  exact .inr (.inr (hv b hb h)), fun b _ h => h, fun b h => h, hd, rfl, rfl, rfl⟩
theorem bZ.iT {S' : Sc} (h : ah (bS L S) w w') (hd : S'.D = S.D) (hg : S'.G = S.G) : bZ w w' L S K L S' K :=
 ⟨h.more (fun g hg => .inl hg), fun b hb h => by
  have e5 := bS.same (L := L) hd hg
  rcases h with h | h
  ·rw [e5] at h; exact .inl h
  exact .inr h, fun b _ h => h, fun b h => h, rfl, rfl, rfl, rfl⟩
def nA (w0 w : World) (L : Lc) (S : Sc) (K : Kc) (f : Fl) (b : Bk) (w' : World) : Prop := ∃ L' S' K', bZ w w' L S K L' S' K' ∧ bo w0 w' L' S' K' f b
end Go.Proofs.YtjdknddnanopaaaGreat
