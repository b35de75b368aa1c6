/-
  Part 6 of the proof.
-/
import Derived.Test.YtjdknddnanopaaaGreatR5
namespace Go.Proofs.YtjdknddnanopaaaGreat
open Go.RowKit Tryz
set_option maxRecDepth 100000
set_option maxHeartbeats 16000000
set_option linter.all false
variable {l sp : List eB} {f : Fl} {w w' : World} {B D a b base bl c e fi g j k n size : Nat} {v : List Int} {s : St} {p : eB} {A : Option Addr} {x : Int} {vs xs : List Value} {X : Nat → Prop} {L : Lc}
theorem zM : (prog.info? 132).map (fun i => (i.zero, i.size, i.bytes)) = some (some (.agg #[.int .i64 0, .int .i64 0, .int .i64 0]), 3, 24) := by kernel_rfl
theorem EY (a : Addr) (n c : Nat) (w : World) : (binOp .eql 40 (.slice (some a) n c) (.slice none 0 0)).run prog w = .ok (.bool false) w := by kernel_rfl
theorem EZ (n c : Nat) (w : World) : (binOp .eql 40 (.slice none n c) (.slice none 0 0)).run prog w = .ok (.bool true) w := by kernel_rfl
theorem mR (l : List eB) : ∀ u ∈ bK l, u.oneCell' = true := by
 intro u hu
 simp only [bK, List.mem_flatMap] at hu
 obtain ⟨x, _, h⟩ := hu
 simp only [eB.cells, List.mem_cons, List.not_mem_nil, or_false] at h
 rcases h with rfl | rfl | rfl <;> rfl
theorem BW (l : List eB) : (bK l).length = l.length * 3 := lI eB.cells 3 (fun _ => rfl) l
theorem Fe (A : Option Addr) (n c B : Nat) (b : List eB) (w : World) (hA : Rd w B A (bK b)) (hB : B ≤ w.heap.size) (hn : b.length = n) (hm : n ≤ 1000000) :
 Calls prog 99 #[.slice A n c] w fun e w' => ∃ v', e = .returned v' ∧ w'.ownsRow w.heap.size 132 3 v' n (bK b) ∧ bW w w' := by
 cases A with
 | none =>
  have hb : b = [] := by
   cases nD : b with
   | nil => rfl
   | cons x r =>
    obtain ⟨_, _, e, _⟩ := hA (by rw [nD]; simp [bK, eB.cells])
    cases e
  subst hb
  simp at hn
  subst hn
  have h1 := EZ 0 c
  clear hA
  go_enter func99, ntmps99
  go_wp2
  go_ret
  exact ⟨_, rfl, World.ownsRow_nil .., Below.refl _ _⟩
 | some a =>
  have h1 := EY a n c
  have HA := iD hA
  have zk : Hid ((bK b).length = n * 3) := by rw [Hid, BW, hn]
  obtain ⟨i9, OG, Ey, Ex, Ew⟩ := info_parts zM
  have nR : 0 ≤ maxLen := Nat.zero_le _
  clear hA hn
  go_enter func99, ntmps99
  go_wp2_with (at_builtin; refine aN _ rfl _ _ 40 rfl w.heap.size 132 i9 (.agg #[.int .i64 0, .int .i64 0, .int .i64 0]) 3 24 underlying40 OG Ey Ex Ew rfl oM _ 0 [] rfl (World.ownsRow_lit w #[] 0 cV nR rfl) B _ n c (bK b) rfl (HA.below ((Below.refl w.heap.size w).alloc cV _) hB) zk (mR _) (by unfold maxLen; omega) oM (by simp) ?_)
  intro v' w2 bY hgrow kg
  have gh : Hid (bW w w2) := ((Below.refl w.heap.size w).alloc cV _).grown hgrow (by simp) (fun k hk => by have hk' : some w.heap.size = some k := hk; injection hk'; omega)
  try simp only [Nat.zero_add, List.nil_append] at bY
  have HO := iD bY
  clear bY hgrow kg
  go_wp2
  go_ret
  exact ⟨_, rfl, by simpa using HO.out, gh.out⟩
def fy (p : eB) : Bool := decide (p.df < p.lo ∨ p.hi < p.df)
theorem C7 (hp : l[k]? = some p) (h : (l.take k).any fy = false) (hb : fy p = false) : (l.take (k + 1)).any fy = false := by
 rw [bA l k p hp, List.any_append, h, Bool.false_or]
 simp [hb]
theorem Az (hp : l[k]? = some p) (hb : fy p = true) : l.any fy = true := List.any_eq_true.2 ⟨p, List.mem_of_getElem? hp, hb⟩
section
variable {w0 w : World} {L : Lc} {f : Fl}
theorem I9 (h : bB w0 w L f) (first aa : Int) (Cx : dI first) (dC : dI aa) (A : Option Addr) (n c : Nat) (sp : List eB) (hA : Rd w w.heap.size A (bK sp)) (hn : sp.length = n) (qm : n ≤ c) (fQ : c ≤ maxLen) (dc : ∀ p ∈ sp, p.ok) :
 Calls prog 98 #[.pointer (some ⟨L.d, 0, none⟩), .int .i64 first, .int .i64 aa, .slice A n c] w fun e w' => e = .returned (fx (cI f first aa sp)) ∧ bW w w' := by
 unfold maxLen at fQ
 unfold dI at Cx dC
 have h1 := gO L.d
 have DM := iD (oc h)
 have HB := iD (wR h)
 have hw := h.ok.b2
 have HA := iD hA
 have HN := iD hn
 have gX := iD dc
 have H := iD h
 have rN := iD (fun w => gm aa 2 16 w)
 have oW := iD (fun w => gm n 1 48 w)
 by_cases hd : f.aF = true
 ·have HE : Hid (cI f first aa sp = 20) := by unfold cI; rw [Hid, iP hd]
  rw [hd] at DM
  clear h hA hn dc hd
  go_enter func98, ntmps98
  go_wp2_with (fail)
  refine DM.mono ?_
  rintro e w1 ⟨rfl, rfl⟩
  go_wp2
  go_ret
  rw [HE]
  exact ⟨rfl, Below.refl _ _⟩
 have kW : f.aF = false := by simpa using hd
 have HD := iD kW
 rw [kW] at DM
 by_cases hb : 2 ≤ aa ∧ aa ≤ 16
 case neg =>
  have HE : Hid (cI f first aa sp = 3) := by unfold cI; rw [Hid, iN hd, iP oM]
  rw [decide_eq_false hb] at rN
  clear h hA hn dc hd kW hb
  go_enter func98, ntmps98
  go_wp2_with (fail)
  refine DM.mono ?_
  rintro e w1 ⟨rfl, rfl⟩
  go_wp2_with (fail)
  refine (rN _).mono ?_
  rintro e w1 ⟨rfl, rfl⟩
  go_wp2
  go_ret
  rw [HE]
  exact ⟨rfl, Below.refl _ _⟩
 rw [decide_eq_true hb] at rN
 by_cases hi : first < 0 ∨ (f.ar.length : Int) - aa < first
 ·have HE : Hid (cI f first aa sp = 10) := by unfold cI; rw [Hid, iN hd, iN oM, iP hi]
  by_cases SK : first < 0
  ·have d1 : decide (first < 0) = true := by simpa using SK
   clear h hA hn dc hd kW hi
   go_enter func98, ntmps98
   go_wp2_with (fail)
   refine DM.mono ?_
   rintro e w1 ⟨rfl, rfl⟩
   go_wp2_with (fail)
   refine (rN _).mono ?_
   rintro e w1 ⟨rfl, rfl⟩
   go_wp2
   go_ret
   rw [HE]
   exact ⟨rfl, Below.refl _ _⟩
  have UB : (f.ar.length : Int) - aa < first := oM
  have d1 : decide (first < 0) = false := by simpa using SK
  obtain ⟨dP, gV⟩ := hb
  generalize f.ar.length = nw at *
  have d2 : decide ((nw : Int) - aa < first) = true := by simpa using UB
  clear h hA hn dc hd kW hi SK
  go_enter func98, ntmps98
  go_wp2_with (fail)
  refine DM.mono ?_
  rintro e w1 ⟨rfl, rfl⟩
  go_wp2_with (fail)
  refine (rN _).mono ?_
  rintro e w1 ⟨rfl, rfl⟩
  go_wp2_with (fail)
  refine HB.mono ?_
  rintro e w1 ⟨rfl, rfl⟩
  go_wp2
  go_ret
  rw [HE]
  exact ⟨rfl, Below.refl _ _⟩
 have SK : 0 ≤ first := oM
 have UB : first ≤ (f.ar.length : Int) - aa := oM
 have d1 : decide (first < 0) = false := by simpa using SK
 obtain ⟨dP, gV⟩ := hb
 by_cases hl : 1 ≤ n ∧ n ≤ 48
 case neg =>
  have HE : Hid (cI f first aa sp = 3) := by unfold cI; rw [Hid, iN hd, iN oM, iN hi, iP oM]
  rw [decide_eq_false (show ¬ (1 ≤ (n : Int) ∧ (n : Int) ≤ 48) by omega)] at oW
  generalize f.ar.length = nw at *
  have d2 : decide ((nw : Int) - aa < first) = false := by simpa using UB
  clear h hA hn dc hd kW hi hl
  go_enter func98, ntmps98
  go_wp2_with (fail)
  refine DM.mono ?_
  rintro e w1 ⟨rfl, rfl⟩
  go_wp2_with (fail)
  refine (rN _).mono ?_
  rintro e w1 ⟨rfl, rfl⟩
  go_wp2_with (fail)
  refine HB.mono ?_
  rintro e w1 ⟨rfl, rfl⟩
  go_wp2_with (fail)
  refine (oW _).mono ?_
  rintro e w1 ⟨rfl, rfl⟩
  go_wp2
  go_ret
  rw [HE]
  exact ⟨rfl, Below.refl _ _⟩
 rw [decide_eq_true (show 1 ≤ (n : Int) ∧ (n : Int) ≤ 48 by omega)] at oW
 have HE : Hid (cI f first aa sp = if sp.any fy = true then 3 else if f.pg < cN n then 11 else 0) := by
  unfold cI
  rw [Hid, iN hd, iN oM, iN hi, iN oM, hn]
  rfl
 have jh := iD (fun (w' : World) (hb : bW w w') => ir (h.ab hb))
 have XT := iD (fun w => mQ n oM w)
 have xP := h.ok.p2
 have jE := jL hl.2
 generalize f.ar.length = nw at *
 have d2 : decide ((nw : Int) - aa < first) = false := by simpa using UB
 obtain ⟨Iz, Dy⟩ := hl
 clear h hA hn dc hd kW hi
 go_enter func98, ntmps98
 go_wp2_with (fail)
 refine DM.mono ?_
 rintro e w1 ⟨rfl, rfl⟩
 go_wp2_with (fail)
 refine (rN _).mono ?_
 rintro e w1 ⟨rfl, rfl⟩
 go_wp2_with (fail)
 refine HB.mono ?_
 rintro e w1 ⟨rfl, rfl⟩
 go_wp2_with (fail)
 refine (oW _).mono ?_
 rintro e w1 ⟨rfl, rfl⟩
 clear d1 d2
 go_wp2
 go_loopw [44] (fun i wr => ∃ k : Nat, k ≤ n ∧ i = .int .i64 k ∧ (sp.take k).any fy = false ∧ bW w wr) (fun i _ => n - (intOf i).toNat)
 case atStart => exact ⟨0, Nat.zero_le _, rfl, rfl, Below.refl _ _⟩
 case round =>
  obtain ⟨k, hk, rfl, ht, QR⟩ := hrel
  have HT := iD ht
  have gg := iD QR
  clear ht QR
  by_cases aY : k < n
  ·obtain ⟨p, hp⟩ := getElem?_of_lt (l := sp) (k := k) (by rw [HN]; exact aY)
   obtain ⟨b, off, rfl, cB, e0, e1, e2⟩ := (cn.of (X := fun _ => False) (HA.below gg cV) gg.size (fun _ h => h.elim)).par hp
   have HP := iD hp
   have jI : Hid (bW w (wr.alloc (.cells #[.int .i64 p.lo, .int .i64 p.hi, .int .i64 p.df] 132))) := gg.alloc gg.size _
   clear hp
   by_cases q1 : p.df < p.lo
   ·have d1 : decide (p.df < p.lo) = true := by simpa using q1
    have HF : Hid (cI f first aa sp = 3) := by
     rw [Hid, HE, iP (Az HP (by unfold fy; rw [decide_eq_true (.inl q1)]))]
    clear q1
    go_wp2
    go_ret
    rw [HF]
    exact ⟨rfl, jI⟩
   have d1 : decide (p.df < p.lo) = false := by simpa using q1
   by_cases q2 : p.hi < p.df
   ·have d2 : decide (p.hi < p.df) = true := by simpa using q2
    have HF : Hid (cI f first aa sp = 3) := by
     rw [Hid, HE, iP (Az HP (by unfold fy; rw [decide_eq_true (.inr q2)]))]
    clear q1 q2
    go_wp2
    go_ret
    rw [HF]
    exact ⟨rfl, jI⟩
   have d2 : decide (p.hi < p.df) = false := by simpa using q2
   have HS := iD (C7 HP HT (by unfold fy; rw [decide_eq_false oM]))
   clear q1 q2
   go_wp2
   go_roundw
   case rel => exact ⟨k + 1, oM, by go_num, HS, jI⟩
   case measure => simp [intOf]; omega
  have kE : k = n := oM
  subst kE
  have Bj : Hid (sp.any fy = false) := by
   have := HT.out
   rwa [List.take_of_length_le (by rw [HN]; exact Nat.le_refl _)] at this
  have UZ := iD (jh wr gg)
  by_cases hs : f.pg < cN k
  ·have HF : Hid (cI f first aa sp = 11) := by rw [Hid, HE, Bj, iN (by decide), iP hs]
   generalize f.pg = pg at *
   generalize cN k = K at *
   have d3 : decide (pg < K) = true := by simpa using hs
   clear HE
   go_wp2_with (fail)
   refine (XT _).mono ?_
   rintro e w1 ⟨rfl, rfl⟩
   go_wp2_with (fail)
   refine UZ.mono ?_
   rintro e w1 ⟨rfl, rfl⟩
   go_wp2
   go_ret
   rw [HF]
   exact ⟨rfl, gg⟩
  have HF : Hid (cI f first aa sp = 0) := by rw [Hid, HE, Bj, iN (by decide), iN hs]
  generalize f.pg = pg at *
  generalize cN k = K at *
  have d3 : decide (pg < K) = false := by simpa using hs
  clear HE
  go_wp2_with (fail)
  refine (XT _).mono ?_
  rintro e w1 ⟨rfl, rfl⟩
  go_wp2_with (fail)
  refine UZ.mono ?_
  rintro e w1 ⟨rfl, rfl⟩
  go_wp2
  go_ret
  rw [HF]
  exact ⟨rfl, gg⟩
end
structure Py (w wr : World) (v : Value) (vs : List Value) (pg : Nat → List Int) (k : Nat) : Prop where
 own : wr.ownsRow w.heap.size 32 1 v k vs
 ZX : ∀ i, i < k → ∃ g c, vs[i]? = some (.slice (some ⟨g, 0, none⟩) 64 c) ∧ wr.ownsRow w.heap.size 5 1 (.slice (some ⟨g, 0, none⟩) 64 c) 64 (ag .u8 (pg i))
 len : ∀ i, i < k → (pg i).length = 64
 below : bW w wr
theorem Py.ab {wr : World} {v : Value} {pg : Nat → List Int} (h : Py w wr v vs pg k) (hb : bW wr w') : Py w w' v vs pg k :=
 ⟨aC h.own hb, fun i hi => by
  obtain ⟨g, c, h1, h2⟩ := h.ZX i hi
  exact ⟨g, c, h1, aC h2 hb⟩, h.len, h.below.trans (hb.mono h.below.size)⟩
theorem Py.push {W W' : World} {v v' : Value} {pg : Nat → List Int} {o : Obj} (h : Py w W v vs pg k) 
 (hp : W.ownsRow w.heap.size 5 1 (.slice (some ⟨g, 0, none⟩) 64 c) 64 (ag .u8 (pg k))) (hlen : (pg k).length = 64)
 (ho : W'.ownsRow w.heap.size 32 1 v' (k + 1) (vs ++ [.slice (some ⟨g, 0, none⟩) 64 c])) (hg : (W.alloc o).grownBy W' v.ownBlock) : Py w W' v' (vs ++ [.slice (some ⟨g, 0, none⟩) 64 c]) pg (k + 1) := by
 have hb : bW W (W.alloc o) := bV.alloc cV o
 have h1 := h.ab hb
 have rR := aC hp hb
 have hl : vs.length = k := by have := h.own.1; simpa using this
 refine ⟨ho, fun i hi => ?_, fun i hi => ?_, h1.below.grown hg h1.below.size (fun k hk => (h1.own.lt k hk).1)⟩
 ·by_cases e : i = k
  ·subst e
   exact ⟨g, c, by rw [List.getElem?_append_right oM, hl]; simp, bN rR hg (fun g' du e' => aL h1.own rR (by decide) g' e' du)⟩
  obtain ⟨g', c', a1, a2⟩ := h1.ZX i oM
  exact ⟨g', c', by rw [List.getElem?_append_left oM]; exact a1, bN a2 hg (fun g2 du e' => aL h1.own a2 (by decide) g2 e' du)⟩
 by_cases e : i = k
 ·subst e; exact hlen
 exact h.len i oM
theorem Py.rd {wr : World} {pg : Nat → List Int} (h : Py w wr (.slice A n c) vs pg n) (X : Nat → Prop) (hX : ∀ b, X b → b < w.heap.size) : lT X wr A ((List.range n).map pg) := by
 have hl : vs.length = n := by have := h.own.1; simpa using this
 refine ⟨vs, lA hl h.own hX, by simp [hl], fun i p hp => ?_⟩
 have hi : i < n := by have := (List.getElem?_eq_some_iff.1 hp).1; simpa using this
 rw [List.getElem?_map, List.getElem?_range hi] at hp
 injection hp with hp
 subst hp
 obtain ⟨g, c, a1, a2⟩ := h.ZX i hi
 obtain ⟨_, _, hv, h1, h2, _⟩ := bM a2
 injection hv with iG jA yQ
 subst yQ
 exact ⟨_, 64, _, a1, h.len i hi, h1, h2, lA (by rw [aD, h.len i hi]) a2 hX⟩
section
variable {w0 w : World} {L : Lc} {f : Fl}
theorem Hm (h : bB w0 w L f) (hd : f.aF = false) (c0 : w.cell? ⟨D, 0, none⟩ = some (.pointer (some ⟨L.d, 0, none⟩))) (c1 : w.cell? ⟨D, 1, none⟩ = some (.int .i64 fi)) (c3 : w.cell? ⟨D, 3, none⟩ = some (.slice A n c)) (n1 : 1 ≤ n) (n2 : n ≤ 48) (lk : fi ≤ 64) 
 (b j : Nat) (dP : b < 1000) (JQ : j < 1000) (a : Nat) (ha : (fi + b) * f.pg + j * cN n = a) (nC : a + cN n ≤ f.ar.length * f.pg) (X : Nat → Prop) (hX : ∀ b, X b → b < w.heap.size) :
 Calls prog 101 #[.pointer (some ⟨D, 0, none⟩), .int .i64 b, .int .i64 j] w fun e w' => ∃ A' c', e = .returned (.tuple #[.slice A' (cN n) c', .nilIface]) ∧ cN n ≤ c' ∧ c' ≤ maxLen ∧ lT X w' A' (bT f a (cN n)) ∧ bW w w' := by
 have g1 := ne_nil
 have II := World.block_lt_of_cell? w _ c0
 have jh : Hid (∀ W', bW w W' → Calls prog 113 #[.pointer (some ⟨D, 0, none⟩), .int .i64 b, .int .i64 j] W' fun e w' => e = .returned (.int .i64 (a : Nat)) ∧ ∃ q, w' = W'.drewN q) := fun W' cB => by
  rw [← ha]
  exact F5 (h.ab cB) ((cB.cell (p := ⟨D, 0, none⟩) II).trans c0) ((cB.cell (p := ⟨D, 1, none⟩) II).trans c1) ((cB.cell (p := ⟨D, 3, none⟩) II).trans c3) n1 n2 lk (b : Int) (j : Int) b j rfl rfl dP JQ
 have NG := iD (fun w => mQ n oM w)
 have jE := jL n2
 have hm := gx h.ok
 have HX := iD hX
 have yd : Hid (∀ i, i < cN n → (aB f (a + i)).length = 64) := fun i hi => kj h.ok oM
 have pz : Hid (∀ W' (i : Nat), bW w W' → i < cN n → Calls prog 108 #[.pointer (some ⟨L.d, 0, none⟩), .int .i64 ((a : Int) + (i : Int))] W' fun e w' => ∃ g c, e = .returned (.tuple #[.slice (some ⟨g, 0, none⟩) 64 c, .nilIface]) ∧ w'.ownsRow W'.heap.size 5 1 (.slice (some ⟨g, 0, none⟩) 64 c) 64 (ag .u8 (aB f (a + i))) ∧ bW W' w') := by
  intro W' i cB hi
  have e1 : (a : Int) + (i : Int) = ((a + i : Nat) : Int) := by push_cast; rfl
  refine (vC (h.ab cB) ((a : Int) + (i : Int))).mono ?_
  rw [e1, qO hd (by omega : a + i < f.ar.length * f.pg)]
  simp only [yd.out i hi]
  rintro e w' ⟨v', rfl, ho, nD⟩
  obtain ⟨A2, c2, rfl, _, _, hg⟩ := a9 ho
  obtain ⟨g, rfl, _⟩ := hg oM
  exact ⟨g, c2, rfl, ho, nD⟩
 have DO : Hid (∀ W', bW w W' → W'.cell? ⟨D, 0, none⟩ = some (.pointer (some ⟨L.d, 0, none⟩))) := fun W' cB => (cB.cell (p := ⟨D, 0, none⟩) II).trans c0
 have QU : a ≤ 1024 := oM
 obtain ⟨K, hK⟩ := ex (cN n)
 rw [hK] at jE NG yd pz ⊢
 obtain ⟨i23, hi, ur, Qq, Cj⟩ := info_parts zN
 clear h hd hX ha nC hm hK c0 c1
 go_enter func101, ntmps101
 go_wp2_with (fail)
 refine (NG w).mono ?_
 rintro e w1 ⟨rfl, rfl⟩
 go_wp2
 go_loopw [8, 18] (fun v i wr => ∃ k : Nat, k ≤ K ∧ i = .int .i64 k ∧ ∃ vs, Py w wr v vs (fun i => aB f (a + i)) k) (fun _ i _ => K - (intOf i).toNat)
 case atStart => exact ⟨0, Nat.zero_le _, rfl, [], ⟨World.ownsRow_nil _ _ _ _, fun i hi => absurd hi oM, fun i hi => absurd hi oM, Below.refl _ _⟩⟩
 case round =>
  obtain ⟨k, hk, rfl, vs, hI⟩ := hrel
  have HI := iD hI
  have gg := iD hI.below
  clear hI
  by_cases aY : k < K
  ·have c0 := DO wr gg
   have t0 : IntKind.i64.wrap ((a : Int) + (k : Int)) = (a : Int) + (k : Int) := IntWalk.i64_in _ oM
   have UZ : Hid (∀ q, Calls prog 113 #[.pointer (some ⟨D, 0, none⟩), .int .i64 b, .int .i64 j] (wr.drewN q) fun e w' => e = .returned (.int .i64 (a : Nat)) ∧ ∃ q2, w' = (wr.drewN q).drewN q2) :=
    fun q => jh _ (gg.trans ((Below.drewN bV q).mono gg.size))
   have XI : Hid (∀ W', bW wr W' → Calls prog 108 #[.pointer (some ⟨L.d, 0, none⟩), .int .i64 ((a : Int) + (k : Int))] W' fun e w' => ∃ g c, e = .returned (.tuple #[.slice (some ⟨g, 0, none⟩) 64 c, .nilIface]) ∧ w'.ownsRow W'.heap.size 5 1 (.slice (some ⟨g, 0, none⟩) 64 c) 64 (ag .u8 (aB f (a + k))) ∧ bW W' w') :=
    fun W' cB => pz W' k (gg.trans (cB.mono gg.size)) aY
   go_wp2_with (fail)
   go_region_held3 (fun w' => w'.cell? ⟨D, 0, none⟩ = some (.pointer (some ⟨L.d, 0, none⟩))) (first | go_keep | exact DO _ (gg.trans (jG.mono gg.size))) (first
    | (go_at_call 113; refine (jh _ (gg.trans (Below.mono (by repeat (first | exact Below.refl _ _ | refine Below.drew ?_ | refine Below.drewN ?_ _)) gg.size))).mono ?_; rintro e wp ⟨rfl, q1, rfl⟩)
    | (go_at_call 108; refine (XI _ (by repeat (first | exact Below.refl _ _ | refine Below.drew ?_ | refine Below.drewN ?_ _))).mono ?_; rintro e we ⟨g, cc, rfl, V0, LA⟩; have jG := (Below.drewN (Below.refl wr.heap.size wr) _).trans LA))
   have ij := iD (HI.ab jG)
   have MR : Hid (we.ownsRow w.heap.size 5 1 (.slice (some ⟨g, 0, none⟩) 64 cc) 64 (ag .u8 (aB f (a + k)))) := mT V0 (Nat.le_trans gg.size (by repeat (first | exact Nat.le_refl _ | rfl)))
   have HLK := iD (yd k aY)
   clear V0 LA jG c0 t0
   go_wp2_with (at_builtin; refine wpList_append_own _ rfl _ _ 41 rfl w.heap.size 32 i23 (.slice none 0 0) 1 24 underlying41 hi ur Qq Cj rfl oM _ _ _ rfl (aC ij.own (bV.alloc cV _)) ⟨we.heap.size, 0, none⟩ 1 1 [.slice (some ⟨g, 0, none⟩) 64 cc] rfl rfl (cell_one_new _ _ _) (by simp [Value.oneCell']) (by unfold maxLen; omega) oM (by have := ij.below.size; simp; omega) ?_)
   intro v' w8 hown8 hgrow8 _
   have PX := iD (ij.push MR HLK hown8 hgrow8)
   clear hown8 hgrow8
   go_wp2
   go_roundw
   case rel => exact ⟨k + 1, oM, by go_num, _, PX⟩
   case measure => simp [intOf]; omega
  have kE : k = K := oM
  subst kE
  obtain ⟨A', c', rfl, h1, h2, _⟩ := bM HI.own
  have HR := iD (HI.rd X HX)
  have HH := iD (And.intro h1 h2)
  clear h1 h2
  go_wp2
  go_ret2
  exact ⟨A', c', rfl, HH.1, HH.2, HR, gg⟩
end
theorem gD (h : v.length = sp.length) : (ez sp v).length = sp.length := by simp [ez, h]
theorem Ii (hp : sp[k]? = some p) (hx : v[k]? = some x) : (ez sp v)[k]? = some (ey p x) := by
 unfold ez
 rw [List.getElem?_zipWith, hp, hx]
def iy (sp : List eB) (v : List Int) (k : Nat) : List Int := (ez sp v).take k ++ v.drop k
theorem Ep (sp : List eB) (v : List Int) : iy sp v 0 = v := by simp [iy]
theorem Ik (h : v.length = n) (hs : sp.length = n) : iy sp v n = ez sp v := by
 unfold iy
 rw [List.take_of_length_le (by rw [gD oM]; omega), List.drop_of_length_le oM, List.append_nil]
theorem yM (h : v.length = n) (hs : sp.length = n) (hk : k ≤ n) (hx : v[k]? = some x) : (iy sp v k)[k]? = some x := by
 unfold iy
 rw [List.getElem?_append_right (by rw [List.length_take]; omega), List.length_take, gD oM, List.getElem?_drop, show k + (k - min k sp.length) = k by omega]
 exact hx
theorem Er (h : v.length = n) (hs : sp.length = n) (hp : sp[k]? = some p) (hx : v[k]? = some x) : (iy sp v k).set k (ey p x) = iy sp v (k + 1) := by
 have hk : k < n := by rw [← h]; exact (List.getElem?_eq_some_iff.1 hx).1
 have hl : ((ez sp v).take k).length = k := by rw [List.length_take, gD oM]; omega
 unfold iy
 rw [List.set_append_right _ _ oM, hl, Nat.sub_self, gP v k x hx, List.set_cons_zero, bA _ k _ (Ii hp hx), List.append_assoc]
 rfl
theorem Ho {l : List Int} (h : l[k]? = some x) : l.set k x = l := by
 apply List.ext_getElem?
 intro i
 rw [List.getElem?_set]
 by_cases e : k = i
 ·subst e
  rw [iP rfl, iP (List.getElem?_eq_some_iff.1 h).1, h]
 rw [iN e]
theorem Ij {As : Option Addr} {cs : Nat} (c3 : w.cell? ⟨D, 3, none⟩ = some (.slice As n cs)) (sp : List eB) (hA : Rd w w.heap.size As (bK sp)) (hn : sp.length = n) (n1 : 1 ≤ n) (n2 : n ≤ 48) (kX : n ≤ cs) (fQ : cs ≤ maxLen) 
 (A : Option Addr) (c : Nat) (v : List Int) (hV : Rd w w.heap.size A (aA v)) (hv : v.length = n) :
 Calls prog 103 #[.pointer (some ⟨D, 0, none⟩), .slice A n c] w fun e w' => ∃ v', e = .returned v' ∧ w'.ownsRow w.heap.size 3 1 v' n (aA (ez sp v)) ∧ bW w w' := by
 unfold maxLen at fQ
 have II := World.block_lt_of_cell? w _ c3
 have Dp := iD (ng A n c w.heap.size v w hV cV hv oM)
 have HA := iD hA
 have HN := iD hn
 have HV := iD hv
 have ye : Hid (∀ W', bW w W' → W'.cell? ⟨D, 3, none⟩ = some (.slice As n cs)) := fun W' cB => (cB.cell (p := ⟨D, 3, none⟩) II).trans c3
 clear hA hn hV hv c3
 go_enter func103, ntmps103
 go_wp2_with (fail)
 refine Dp.mono ?_
 rintro e w1 ⟨v', rfl, ho, hb⟩
 obtain ⟨A', c', rfl, h1, h2, hg⟩ := a9 ho
 obtain ⟨g, rfl, tW, vT⟩ := hg oM
 have iL := iD ho
 have yh := iD hb
 have c3 := ye w1 hb
 unfold maxLen at h2
 clear ho hb
 go_wp2
 go_loopw [15] (fun i wr => ∃ k : Nat, k ≤ n ∧ i = .int .i64 k ∧ wr.ownsRow w.heap.size 3 1 (.slice (some ⟨g, 0, none⟩) n c') n (aA (iy sp v k)) ∧ bW w wr) (fun i _ => n - (intOf i).toNat)
 case atStart => exact ⟨0, Nat.zero_le _, rfl, by rw [Ep]; exact iL, yh⟩
 case round =>
  obtain ⟨k, hk, rfl, hO, hB⟩ := hrel
  have HO := iD hO
  have HB := iD hB
  clear hO hB
  by_cases aY : k < n
  ·obtain ⟨p, hp⟩ := getElem?_of_lt (l := sp) (k := k) (by rw [HN]; exact aY)
   obtain ⟨x, hx⟩ := getElem?_of_lt (l := v) (k := k) (by rw [HV]; exact aY)
   obtain ⟨b, off, rfl, cB, e0, e1, e2⟩ := (cn.of (X := fun _ => False) (HA.below HB cV) HB.size (fun _ h => h.elim)).par hp
   have HP := iD hp
   have MI := iD hx
   obtain ⟨W, hW⟩ := ex (wr.alloc (.cells #[.int .i64 p.lo, .int .i64 p.hi, .int .i64 p.df] 132))
   have gg : Hid (bW wr W) := by rw [← hW]; exact bV.alloc cV _
   have ue : Hid (W.ownsRow w.heap.size 3 1 (.slice (some ⟨g, 0, none⟩) n c') n (aA (iy sp v k))) := aC HO gg
   have d0 : W.cell? ⟨wr.heap.size, 0, none⟩ = some (.int .i64 p.lo) := by rw [← hW, World.cell?_alloc_new]; rfl
   have d1 : W.cell? ⟨wr.heap.size, 1, none⟩ = some (.int .i64 p.hi) := by rw [← hW, World.cell?_alloc_new]; rfl
   have d2 : W.cell? ⟨wr.heap.size, 2, none⟩ = some (.int .i64 p.df) := by rw [← hW, World.cell?_alloc_new]; rfl
   have d3 : W.cell? ⟨g, k, none⟩ = some (.int .i64 x) := by
    rw [ue.cellAt k oM]
    simp [aA, yM HV.out HN.out hk hx]
   have z3 : W.frozen? ⟨g, k, none⟩ = false := ue.frozenAt _
   have ZG : Hid (bW w W) := HB.trans (gg.mono HB.size)
   have eX : Hid ((iy sp v k).set k (ey p x) = iy sp v (k + 1)) := Er HV HN hp hx
   have PC : Hid (∀ q, Calls prog 105 #[.int .i64 x, .int .i64 p.lo, .int .i64 p.hi] (W.drewN q) fun e w' => e = .returned (.bool (iz p x)) ∧ w' = W.drewN q) := fun q => Bu x p.lo p.hi (W.drewN q)
   clear hp hx
   by_cases nC : iz p x = true
   ·have sc : Hid (iy sp v (k + 1) = iy sp v k) := by
     rw [Hid, ← eX]
     unfold ey
     rw [iP nC]
     exact Ho (yM HV HN hk MI)
    rw [nC] at PC
    clear nC
    go_wp2
    go_quiet ((go_at_call 105; with_reducible exact Calls.quiet_of_same (PC.out _)))
    go_wp2
    go_roundw
    case rel => exact ⟨k + 1, oM, by go_num, by rw [sc]; exact aC ue (Below.drewN bV _), ZG.trans ((Below.drewN bV _).mono ZG.size)⟩
    case measure => simp [intOf]; omega
   have hin' : iz p x = false := by simpa using nC
   have sc : Hid (iy sp v (k + 1) = (iy sp v k).set k p.df) := by
    rw [Hid, ← eX]
    unfold ey
    rw [iN nC]
   rw [hin'] at PC
   have HOS : Hid (∀ q, ((W.drewN q).setCell ⟨g, k, none⟩ (.int .i64 p.df)).ownsRow w.heap.size 3 1 (.slice (some ⟨g, 0, none⟩) n c') n (aA (iy sp v (k + 1))) ∧ bW w ((W.drewN q).setCell ⟨g, k, none⟩ (.int .i64 p.df))) := fun q => by
    have ho := aC ue (Below.drewN (Below.refl W.heap.size W) q)
    have h5 := (ho.stored k (.int .i64 p.df)).1
    rw [sc]
    refine ⟨?_, (ZG.trans ((Below.drewN bV q).mono ZG.size)).setCell (p := ⟨g, k, none⟩) tW _⟩
    have e : aA ((iy sp v k).set k p.df) = (aA (iy sp v k)).set k (.int .i64 p.df) := by simp [aA]
    rw [e]
    exact h5
   clear nC hin'
   go_wp2
   go_quiet ((go_at_call 105; with_reducible exact Calls.quiet_of_same (PC.out _)))
   go_wp2
   go_roundw
   case rel => exact ⟨k + 1, oM, by go_num, (HOS _).1, (HOS _).2⟩
   case measure => simp [intOf]; omega
  have kE : k = n := oM
  subst kE
  have HF : Hid (wr.ownsRow w.heap.size 3 1 (.slice (some ⟨g, 0, none⟩) k c') k (aA (ez sp v))) := by rw [Hid, ← Ik HV HN]; exact HO
  go_wp2
  go_ret
  exact ⟨_, rfl, HF, HB⟩
theorem oH (h : w.ownsRow base e size (.slice A n c) n xs) (hX : ∀ b, (Value.slice A n c).ownBlock = some b → ¬ X b) : cn X w A xs := by
 intro gB
 rcases h.2 with ⟨hv, hn⟩ | ⟨g, cap, cur, hv, hb, hg, qm, fQ, kX, Gu⟩
 ·have := h.1
  rw [hn] at this
  simp at this
  exact absurd this gB
 injection hv with e1 e2 e3
 subst e1
 refine ⟨g, 0, rfl, (Array.getElem?_eq_some_iff.1 hg).1, hX g rfl, fun j u hu => ?_⟩
 rw [Nat.zero_add, cell_of_row w g j cur e (0, 0) hg]
 rw [← Gu, List.getElem?_take] at hu
 split at hu
 ·simpa using hu
 cases hu
def gS (S : Sc) (d : Nat) (s : St) : List Value := (S.cells d s).set 5 (.slice none 0 0)
structure jO (w wr : World) (L : Lc) (S : Sc) (s : St) : Prop where
 below : bW w wr
 own : wr.ownsRow w.heap.size 149 17 (.slice (some ⟨S.D, 0, none⟩) 1 1) 1 (gS S L.d s)
 sp : wr.ownsRow w.heap.size 132 3 (.slice S.As s.aw.length S.cs) s.aw.length (bK s.aw)
 sv : wr.ownsRow w.heap.size 3 1 (.slice S.Av s.saved.length S.cv) s.saved.length (aA s.saved)
 p0 : s.cf = [] ∧ S.Ap = none ∧ S.cp = 0
 v0 : s.values = [] ∧ S.Au = none ∧ S.cu = 0
 t0 : s.aj = []
section
variable {w0 w wr : World} {L : Lc} {S : Sc} {f : Fl} {s : St}
theorem jO.ab (h : jO w wr L S s) (hb : bW wr w') : jO w w' L S s :=
 ⟨h.below.trans (hb.mono h.below.size), aC h.own hb, aC h.sp hb, aC h.sv hb, h.p0, h.v0, h.t0⟩
theorem jO.row (h : jO w wr L S s) (j : Nat) (u : Value) (hj : (gS S L.d s)[j]? = some u) : wr.cell? ⟨S.D, j, none⟩ = some u := by
 have aY : j < 17 := by
  have := (List.getElem?_eq_some_iff.1 hj).1
  simpa [gS, Sc.cells] using this
 rw [h.own.cellAt j oM]
 exact hj
theorem jO.fz (h : jO w wr L S s) (j : Nat) : wr.frozen? ⟨S.D, j, none⟩ = false := h.own.frozenAt _
theorem jO.lt (h : jO w wr L S s) : w.heap.size ≤ S.D ∧ S.D < wr.heap.size := h.own.lt _ rfl
theorem jO.cell (h : jO w wr L S s) (j : Nat) (u : Value) (S' : Sc) (s' : St) (e0 : S'.D = S.D) (hc : gS S' L.d s' = (gS S L.d s).set j u)
 (gT : S'.As = S.As ∧ S'.cs = S.cs ∧ s'.aw = s.aw) (fL : wr.ownsRow w.heap.size 3 1 (.slice S'.Av s'.saved.length S'.cv) s'.saved.length (aA s'.saved)) (p0 : s'.cf = [] ∧ S'.Ap = none ∧ S'.cp = 0) (v0 : s'.values = [] ∧ S'.Au = none ∧ S'.cu = 0) (t0 : s'.aj = []) :
 jO w (wr.setCell ⟨S.D, j, none⟩ u) L S' s' := by
 have h1 := (h.own.stored j u)
 obtain ⟨a1, a2, a3⟩ := gT
 refine ⟨h.below.setCell (p := ⟨S.D, j, none⟩) h.lt.1 _, ?_, ?_, ?_, p0, v0, t0⟩
 ·rw [hc, e0]
  exact h1.1
 ·rw [a1, a2, a3]
  exact bN h.sp h1.2 (fun g hg e => aL h.own h.sp (by decide) g e hg)
 exact bN fL h1.2 (fun g hg e => aL h.own fL (by decide) g e hg)
theorem jO.done (h : jO w wr L S s) (hf : bB w0 w L f) (Iw : cn L.E w L.Ap (ag .u8 f.az)) (hn : s.saved.length = n) (ho : w'.ownsRow wr.heap.size 3 1 (.slice (some ⟨g, 0, none⟩) n c) n (aA s.saved)) (hb : bW wr w') :
 bL w0 (w'.setCell ⟨S.D, 5, none⟩ (.slice (some ⟨g, 0, none⟩) n c)) L { S with G := g, cg := c } f { s with aj := s.saved } ∧ Below w.heap.size w (w'.setCell ⟨S.D, 5, none⟩ (.slice (some ⟨g, 0, none⟩) n c)) := by
 subst hn
 obtain ⟨W, hW⟩ := ex (w'.setCell ⟨S.D, 5, none⟩ (.slice (some ⟨g, 0, none⟩) s.saved.length c))
 have h' := h.ab hb
 have hD := h.lt
 have hg : wr.heap.size ≤ g ∧ g < w'.heap.size := ho.lt _ rfl
 have hgD : g ≠ S.D := by have := hg.1; omega
 have DF : bW w W := by rw [← hW]; exact h'.below.setCell (p := ⟨S.D, 5, none⟩) hD.1 _
 have dX := h'.own.stored 5 (.slice (some ⟨g, 0, none⟩) s.saved.length c)
 rw [hW] at dX ⊢
 have kV : W.ownsRow wr.heap.size 3 1 (.slice (some ⟨g, 0, none⟩) s.saved.length c) s.saved.length (aA s.saved) := bN ho dX.2 (fun g' du e => aL h'.own ho (by decide) g' e du)
 have VO : W.ownsRow w.heap.size 132 3 (.slice S.As s.aw.length S.cs) s.aw.length (bK s.aw) := bN h'.sp dX.2 (fun g hg e => aL h'.own h'.sp (by decide) g e hg)
 have Iq : W.ownsRow w.heap.size 3 1 (.slice S.Av s.saved.length S.cv) s.saved.length (aA s.saved) := bN h'.sv dX.2 (fun g hg e => aL h'.own h'.sv (by decide) g e hg)
 have gU := hf.ab DF
 have Iz := hf.ld
 have Dy := hf.bi.2
 have hl3 := hf.bw.2
 have UF : ∀ b, w.heap.size ≤ b → b ≠ S.D → b < wr.heap.size → ¬ ea L { S with G := g, cg := c } b := by
  intro b h1 h2 h3 hx
  have h4 := hg.1
  rcases hx with (e | e | e | e | e) | e
  ·omega
  ·omega
  ·omega
  ·exact h2 e
  ·have e' : b = g := e
   omega
  have := hf.eb b e
  omega
 have ED : ∀ j u, (({ S with G := g, cg := c } : Sc).cells L.d { s with aj := s.saved })[j]? = some u → W.cell? ⟨S.D, j, none⟩ = some u := by
  intro j u hj
  have aY : j < 17 := by
   have := (List.getElem?_eq_some_iff.1 hj).1
   simpa [Sc.cells] using this
  rw [dX.1.cellAt j oM, ← hj]
  unfold gS
  rw [List.set_set]
  rfl
 obtain ⟨_, _, IB, q1, q2, _⟩ := bM kV
 injection IB with _ _ rh
 subst rh
 obtain ⟨_, _, IB, r1, r2, _⟩ := bM VO
 injection IB with _ _ rh
 subst rh
 obtain ⟨_, _, IB, s1, s2, _⟩ := bM Iq
 injection IB with _ _ rh
 subst rh
 have Sp : ∀ b, (Value.slice S.As s.aw.length S.cs).ownBlock = some b → w.heap.size ≤ b ∧ b < wr.heap.size ∧ b ≠ S.D := fun b dO =>
  ⟨(h.sp.lt b dO).1, (h.sp.lt b dO).2, fun e => aL h.own h.sp (by decide) b (by rw [e]; rfl) dO⟩
 have Sk : ∀ b, (Value.slice S.Av s.saved.length S.cv).ownBlock = some b → w.heap.size ≤ b ∧ b < wr.heap.size ∧ b ≠ S.D := fun b dO =>
  ⟨(h.sv.lt b dO).1, (h.sv.lt b dO).2, fun e => aL h.own h.sv (by decide) b (by rw [e]; rfl) dO⟩
 refine ⟨⟨gU, Nat.le_trans hf.below.size hD.1, by have := dX.1.lt _ rfl; exact this.2, by simp only; omega, by simp only; omega, by simp only; omega, fun e => hgD e.symm, by simp only; have := hg.1; omega, by simp only; have := hg.1; omega, by simp only; have := hg.1; omega, ED, fun j => dX.1.frozenAt j, mT kV (Nat.le_trans hf.below.size h.below.size), ?_, ?_⟩, DF⟩
 ·refine ⟨oH VO (fun b dO => UF b (Sp b dO).1 (Sp b dO).2.2 (Sp b dO).2.1), r1, r2, oH Iq (fun b dO => UF b (Sk b dO).1 (Sk b dO).2.2 (Sk b dO).2.1), s1, s2, ?_, ?_, ?_, ?_, ?_, ?_⟩
  ·simp only [h.p0.1]; exact lT.nil
  ·simp only [h.p0.1]; exact Nat.zero_le _
  ·simp only [h.p0.2.2]; exact Nat.zero_le _
  ·simp only [h.v0.1]; exact cn.nil
  ·simp only [h.v0.1]; exact Nat.zero_le _
  simp only [h.v0.2.2]; exact Nat.zero_le _
 intro hx
 obtain ⟨b, off, e, aY, n1, n2, n3, hc⟩ := hf.pk hx
 refine ⟨b, off, e, Nat.lt_of_lt_of_le aY DF.size, ?_, fun j u hu => (DF.cell (p := ⟨b, off + j, none⟩) aY).trans (hc j u hu)⟩
 have h4 := hg.1
 rintro ((e | e | e | e | e) | e')
 ·exact n1 e
 ·exact n2 e
 ·exact n3 e
 ·have e' : b = S.D := e
  omega
 ·have e' : b = g := e
  have := h.below.size
  omega
 obtain ⟨b9, abN, e9, _, YQ, _⟩ := Iw hx
 rw [e] at e9
 injection e9 with e9
 injection e9 with e9
 subst e9
 exact YQ e'
end
theorem Gj {cs : Array Value} (hc : cs.toList = xs) (hl : xs.length = size) (hb : base ≤ w.heap.size) :
 (w.alloc (.cells cs e)).ownsRow base e size (.slice (some ⟨w.heap.size, 0, none⟩) 1 1) 1 xs := by
 refine ⟨oM, .inr ⟨w.heap.size, 1, cs, rfl, hb, ?_, Nat.le_refl _, by unfold maxLen; omega, ?_, ?_⟩⟩
 ·show (w.heap.push _)[w.heap.size]? = _
  simp
 ·rw [← Array.length_toList, hc]; omega
 rw [hc, List.take_of_length_le oM]
theorem jm {first aa : Int} (h : cI f first aa sp = 0) : f.aF = false ∧ 2 ≤ aa ∧ aa ≤ 16 ∧ 0 ≤ first ∧ first ≤ (f.ar.length : Int) - aa ∧ 1 ≤ sp.length ∧ sp.length ≤ 48 ∧ sp.any fy = false ∧ cN sp.length ≤ f.pg := by
 unfold cI at h
 split at h
 ·cases h
 split at h
 ·cases h
 split at h
 ·cases h
 split at h
 ·cases h
 split at h
 ·cases h
 split at h
 ·cases h
 rename_i a b c d e g
 exact ⟨by simpa using a, oM, oM, oM, oM, oM, oM, (Bool.not_eq_true _).mp e, oM⟩
structure Kp (a c : St) : Prop where
 f : c.first = a.first
 b : c.aa = a.aa
 s : c.aw = a.aw
 l : a.saved.length = a.aw.length → c.saved.length = a.aw.length
theorem Kp.refl (s : St) : Kp s s := ⟨rfl, rfl, rfl, fun h => h⟩
theorem Kp.trans {a b c : St} (h : Kp a b) (k : Kp b c) : Kp a c := ⟨k.f.trans h.f, k.b.trans h.b, k.s.trans h.s, fun e => by rw [← h.s]; exact k.l (by rw [h.s]; exact h.l e)⟩
theorem tP (f : Fl) (s : St) (b j : Nat) : Kp s (cT f s b j) := by
 unfold cT
 simp only
 split
 ·exact .refl s
 rename_i h
 exact ⟨rfl, rfl, rfl, fun _ => gD oM⟩
theorem dR (f : Fl) (b : Nat) (s : St) (n : Nat) : ee f b s (n + 1) = cT f (ee f b s n) b n := by
 unfold ee
 rw [List.range_succ, List.foldl_append]
 rfl
theorem fa (f : Fl) (n : Nat) (s : St) (m : Nat) : cR f n s (m + 1) = ee f m (cR f n s m) n := by
 unfold cR
 rw [List.range_succ, List.foldl_append]
 rfl
theorem qc (f : Fl) (b : Nat) (s : St) (n : Nat) : Kp s (ee f b s n) := by
 induction n with
 | zero => exact .refl s
 | succ n ih => rw [dR]; exact ih.trans (tP _ _ _ _)
theorem mU (f : Fl) (n : Nat) (s : St) (m : Nat) : Kp s (cR f n s m) := by
 induction m with
 | zero => exact .refl s
 | succ m ih => rw [fa]; exact ih.trans (qc _ _ _ _)
theorem Im (fi bl : Nat) (sp : List eB) : (dM fi bl sp).saved.length = (dM fi bl sp).aw.length := by simp [dM]
theorem iv {d : Int × List Int × Int} (hd : fg (bT f (aG s f b j) s.k) = d) (h : d.2.2 ≠ 0 ∨ d.2.1.length ≠ s.aw.length ∨ d.1 ≤ s.seq) : cT f s b j = s := by
 unfold cT
 rw [hd]
 exact iP h
theorem j9 {d : Int × List Int × Int} (hd : fg (bT f (aG s f b j) s.k) = d) (h : ¬ (d.2.2 ≠ 0 ∨ d.2.1.length ≠ s.aw.length ∨ d.1 ≤ s.seq)) : cT f s b j = { s with seq := d.1, block := b, slot := j, saved := ez s.aw d.2.1 } := by
 unfold cT
 rw [hd]
 exact iN h
theorem Ek {i : Nat} {p : List Int} (h : (bT f a n)[i]? = some p) : p = aB f (a + i) := by
 unfold bT at h
 have hi : i < n := by have := (List.getElem?_eq_some_iff.1 h).1; simpa using this
 rw [List.getElem?_map, List.getElem?_range hi] at h
 injection h with h
 exact h.symm
theorem zE (hf : f.ok) : ∀ p ∈ bT f a n, Bytes p := by
 intro p hp
 obtain ⟨i, hi⟩ := List.mem_iff_getElem?.1 hp
 rw [Ek hi]
 exact tO hf _
theorem Ej (f : Fl) (a n : Nat) : (bT f a n).length = n := by simp [bT]
theorem jO.qbs {wr : World} {S : Sc} (h : jO w wr L S s) (q : Int) (b : Nat) (j : Int) :
 jO w (((wr.setCell ⟨S.D, 6, none⟩ (.int .i64 q)).setCell ⟨S.D, 7, none⟩ (.int .i64 b)).setCell ⟨S.D, 8, none⟩ (.int .i64 j)) L S { s with seq := q, block := b, slot := j } ∧
 wr.grownBy (((wr.setCell ⟨S.D, 6, none⟩ (.int .i64 q)).setCell ⟨S.D, 7, none⟩ (.int .i64 b)).setCell ⟨S.D, 8, none⟩ (.int .i64 j)) (some S.D) := by
 have a1 := h.cell 6 (.int .i64 q) S { s with seq := q } rfl rfl ⟨rfl, rfl, rfl⟩ h.sv h.p0 h.v0 h.t0
 have a2 := a1.cell 7 (.int .i64 b) S { s with seq := q, block := b } rfl rfl ⟨rfl, rfl, rfl⟩ a1.sv h.p0 h.v0 h.t0
 have a3 := a2.cell 8 (.int .i64 j) S { s with seq := q, block := b, slot := j } rfl rfl ⟨rfl, rfl, rfl⟩ a2.sv h.p0 h.v0 h.t0
 exact ⟨a3, ((h.own.stored 6 _).2.trans (a1.own.stored 7 _).2).trans (a2.own.stored 8 _).2⟩
def Ri (w0 w : World) (L : Lc) (f : Fl) (s : St) (e : Ending) (w' : World) : Prop :=
 ∃ S, e = .returned (.tuple #[.pointer (some ⟨S.D, 0, none⟩), .nilIface]) ∧ bL w0 w' L S f s ∧ bW w w' ∧ w.heap.size ≤ S.D ∧ w.heap.size ≤ S.G
section
variable {w0 w : World} {L : Lc} {f : Fl}
theorem KQ (h : bB w0 w L f) (fi bl : Nat) (A : Option Addr) (n c : Nat) (sp : List eB) (hA : Rd w w.heap.size A (bK sp)) (hn : sp.length = n) (qm : n ≤ c) (fQ : c ≤ maxLen) (dc : ∀ p ∈ sp, p.ok) (he : cI f fi bl sp = 0) (Iw : cn L.E w L.Ap (ag .u8 f.az)) :
 Calls prog 64 #[.pointer (some ⟨L.d, 0, none⟩), .int .i64 fi, .int .i64 bl, .slice A n c] w (Ri w0 w L f (aJ f fi bl sp)) := by
 have g1 := ne_nil
 have g2 := fT
 obtain ⟨hd, b2, Zf, f0, f1, n1, K0, fh, uS⟩ := jm he
 have hw := h.ok.b2
 have HC := iD (I9 h fi bl (by unfold dI; omega) (by unfold dI; omega) A n c sp hA hn qm fQ dc)
 rw [he, bG] at HC
 rw [hn] at n1 K0 uS
 unfold maxLen at fQ
 have H := iD h
 have HA := iD hA
 have HN := iD hn
 have gX := iD dc
 have HD := iD hd
 have PQ := iD Iw
 clear Iw
 have Zz := iD uS
 have DA : fi + bl ≤ f.ar.length := oM
 have Yh := iD DA
 clear h hA hn dc he hd fh uS f1 DA
 go_enter func64, ntmps64
 go_wp2_with (fail)
 refine HC.mono ?_
 rintro e w1 ⟨rfl, hb⟩
 have yh := iD hb
 have Dp := iD (Fe A n c w1.heap.size sp w1 (HA.below hb cV |>.more hb.size) cV HN oM)
 clear hb
 go_wp2_with (fail)
 refine Dp.mono ?_
 rintro e w2 ⟨v', rfl, ho, hb⟩
 obtain ⟨As, cs, rfl, gF, je, _⟩ := a9 ho
 have gh : Hid (bW w w2) := yh.trans (hb.mono yh.size)
 have xC : Hid (w2.ownsRow w.heap.size 132 3 (.slice As n cs) n (bK sp)) := mT ho yh.size
 unfold maxLen at je
 clear ho hb
 obtain ⟨W, hW⟩ := ex (w2.alloc (.cells #[.pointer (some ⟨L.d, 0, none⟩), .int .i64 fi, .int .i64 bl, .slice As n cs, .slice none 0 0, .slice none 0 0, .int .i64 0, .int .i64 0, .int .i64 (-1), .bool false, .slice none 0 0, .slice none 0 0, .int .i64 0, .int .i64 0, .int .i64 0, .bool false, .bool false] 149))
 have uD : Hid (jO w W L ⟨w2.heap.size, 0, 0, As, cs, none, 0, none, 0, none, 0⟩ { dM fi bl sp with saved := [] }) := by
  have hb := (Below.refl w2.heap.size w2).alloc cV (.cells #[.pointer (some ⟨L.d, 0, none⟩), .int .i64 fi, .int .i64 bl, .slice As n cs, .slice none 0 0, .slice none 0 0, .int .i64 0, .int .i64 0, .int .i64 (-1), .bool false, .slice none 0 0, .slice none 0 0, .int .i64 0, .int .i64 0, .int .i64 0, .bool false, .bool false] 149)
  rw [← hW]
  refine ⟨gh.trans (hb.mono gh.size), Gj ?_ rfl gh.size, ?_, World.ownsRow_nil _ _ _ _, ⟨rfl, rfl, rfl⟩, ⟨rfl, rfl, rfl⟩, rfl⟩
  ·simp [gS, Sc.cells, dM, HN.out]
  simp only [dM, HN.out]
  exact aC xC hb
 have hDW : w2.heap.size < W.heap.size := uD.lt.2
 obtain ⟨D, hD⟩ := ex w2.heap.size
 rw [hD] at uD hDW
 obtain ⟨i3, vS, kB, jN, la⟩ := info_parts mr
 go_wp2
 go_loopw [37] (fun i wr => ∃ k : Nat, k ≤ n ∧ i = .int .i64 k ∧ ∃ Av cv, jO w wr L ⟨D, 0, 0, As, cs, Av, cv, none, 0, none, 0⟩ { dM fi bl sp with saved := (sp.map eB.df).take k }) (fun i _ => n - (intOf i).toNat)
 case atStart => exact ⟨0, Nat.zero_le _, rfl, none, 0, uD⟩
 case round =>
  obtain ⟨k, hk, rfl, Av, cv, hO⟩ := hrel
  have HO := iD hO
  clear hO
  by_cases aY : k < n
  ·obtain ⟨p, hp⟩ := getElem?_of_lt (l := sp) (k := k) (by rw [HN]; exact aY)
   obtain ⟨b, off, rfl, cB, e0, e1, e2⟩ := (cn.of (X := fun _ => False) (HA.below HO.below cV) HO.below.size (fun _ h => h.elim)).par hp
   have HP := iD hp
   obtain ⟨V, hV⟩ := ex (wr.alloc (.cells #[.int .i64 p.lo, .int .i64 p.hi, .int .i64 p.df] 132))
   have oY : Hid (bW wr V) := by rw [← hV]; exact bV.alloc cV _
   have Zv := iD (HO.ab oY)
   have d2 : V.cell? ⟨wr.heap.size, 2, none⟩ = some (.int .i64 p.df) := by rw [← hV, World.cell?_alloc_new]; rfl
   have c4 := Zv.row 4 _ rfl
   have Wb : ((sp.map eB.df).take k).length = k := by rw [List.length_take, List.length_map, HN]; omega
   simp only [Wb] at c4
   have xX : Hid (∀ W', bW V W' → W'.ownsRow w.heap.size 3 1 (.slice Av k cv) k (aA ((sp.map eB.df).take k))) := fun W' hb => by
    have := (Zv.ab hb).sv
    simp only [Wb] at this
    exact this
   have HGR : Hid (∀ W' w9 v9, bW V W' → W'.grownBy w9 (Value.slice Av k cv).ownBlock → w9.ownsRow w.heap.size 3 1 v9 (k + 1) (aA ((sp.map eB.df).take k) ++ [.int .i64 p.df]) →
    (∃ A9 c9, v9 = .slice A9 (k + 1) c9 ∧ jO w (w9.setCell ⟨D, 4, none⟩ v9) L ⟨D, 0, 0, As, cs, A9, c9, none, 0, none, 0⟩ { dM fi bl sp with saved := (sp.map eB.df).take (k + 1) }) ∧ w9.cell? ⟨D, 4, none⟩ = some (.slice Av k cv) ∧ w9.frozen? ⟨D, 4, none⟩ = false) := by
    intro W' w9 v9 hb hg ho
    have oI := Zv.ab hb
    have fL := oI.sv
    simp only [Wb] at fL
    have bY : w9.ownsRow w.heap.size 149 17 (.slice (some ⟨D, 0, none⟩) 1 1) 1 _ := bN oI.own hg (fun g hg e => aL fL oI.own (by decide) g e hg)
    have gT : w9.ownsRow w.heap.size 132 3 _ _ _ := bN oI.sp hg (fun g hg e => aL fL oI.sp (by decide) g e hg)
    have aaG : bW w w9 := oI.below.grown hg oI.below.size (fun k hk => (fL.lt k hk).1)
    obtain ⟨A9, c9, rfl, _⟩ := a9 ho
    have hp9 : (sp.map eB.df)[k]? = some p.df := by rw [List.getElem?_map, HP]; rfl
    have Wa : ((sp.map eB.df).take (k + 1)).length = k + 1 := by rw [List.length_take, List.length_map, HN]; omega
    have hc9 : aA ((sp.map eB.df).take k) ++ [.int .i64 p.df] = aA ((sp.map eB.df).take (k + 1)) := by
     rw [bA _ k _ hp9, aA, aA, List.map_append]
     rfl
    rw [hc9] at ho
    have Sy : jO w w9 L ⟨D, 0, 0, As, cs, Av, cv, none, 0, none, 0⟩ { dM fi bl sp with saved := (sp.map eB.df).take k } → True := fun _ => trivial
    have dX := bY.stored 4 (.slice A9 (k + 1) c9)
    refine ⟨⟨A9, c9, rfl, aaG.setCell (p := ⟨D, 4, none⟩) (bY.lt _ rfl).1 _, ?_, ?_, ?_, ⟨rfl, rfl, rfl⟩, ⟨rfl, rfl, rfl⟩, rfl⟩, ?_, bY.frozenAt _⟩
    ·have h1 := dX.1
     have e : gS ⟨D, 0, 0, As, cs, A9, c9, none, 0, none, 0⟩ L.d { dM fi bl sp with saved := (sp.map eB.df).take (k + 1) } = (gS ⟨D, 0, 0, As, cs, Av, cv, none, 0, none, 0⟩ L.d { dM fi bl sp with saved := (sp.map eB.df).take k }).set 4 (.slice A9 (k + 1) c9) := by
      unfold gS Sc.cells
      simp only [Wa]
      rfl
     rw [e]
     exact h1
    ·exact bN gT dX.2 (fun g hg e => aL bY gT (by decide) g e hg)
    ·simp only [Wa]
     exact bN ho dX.2 (fun g hg e => aL bY ho (by decide) g e hg)
    rw [bY.cellAt 4 oM]
    have := Wb
    simp only [gS, Sc.cells, List.getElem?_set, this]
    rfl
   have aaq : D < V.heap.size := World.block_lt_of_cell? V _ c4
   have sN : wr.heap.size < V.heap.size := World.block_lt_of_cell? V _ d2
   have x4 : (V.alloc (.cells #[.int .i64 p.df] 3)).cell? ⟨D, 4, none⟩ = some (.slice Av k cv) := (((Below.refl V.heap.size V).alloc cV _).cell (p := ⟨D, 4, none⟩) aaq).trans c4
   have x2 : (V.alloc (.cells #[.int .i64 p.df] 3)).cell? ⟨wr.heap.size, 2, none⟩ = some (.int .i64 p.df) := (((Below.refl V.heap.size V).alloc cV _).cell (p := ⟨wr.heap.size, 2, none⟩) sN).trans d2
   clear Wb hp
   go_wp2
   clear e0 e1 e2
   go_region_law (refine vg rfl (.tmp 45) (.tmp 48) 33 rfl w.heap.size 3 i3 (.int .i64 0) 1 8 underlying33 vS kB jN la rfl oM (.slice Av k cv) k (aA ((sp.map eB.df).take k)) rfl (xX _ (by first | exact (Below.drew (Below.refl V.heap.size V)).alloc cV _ | exact Below.drew ((Below.refl V.heap.size V).alloc cV _))) (V.heap.size + 1) (some ⟨V.heap.size, 0, none⟩) 1 1 [.int .i64 p.df] rfl (by first | exact Rd.new V.drew _ _ _ rfl | exact (Rd.new V _ _ _ rfl).below fY (by simp)) rfl (by simp [Value.oneCell']) (by unfold maxLen; omega) oM (by have := Zv.below.size; simp; omega) ?_; intro v9 w9 hown9 hgrow9 _; obtain ⟨⟨A9, c9, rfl, Sy⟩, c49, z49⟩ := HGR _ _ _ (by first | exact (Below.drew (Below.refl V.heap.size V)).alloc cV _ | exact Below.drew ((Below.refl V.heap.size V).alloc cV _)) hgrow9 hown9)
   all_goals
    have HN9 := iD Sy
    clear Sy hgrow9 hown9 c49 z49
    go_wp2
    go_roundw
    case rel => exact ⟨k + 1, oM, by go_num, A9, c9, HN9⟩
    case measure => simp [intOf]; omega
  have kE : k = n := oM
  subst kE
  have fp : ({ dM fi bl sp with saved := (sp.map eB.df).take k } : St) = dM fi bl sp := by
   rw [List.take_of_length_le (by rw [List.length_map, HN]; exact Nat.le_refl _)]
   rfl
  rw [fp] at HO
  obtain ⟨T, hT⟩ := ex (f.pg / cN k)
  have HT := iD hT
  have WD : T ≤ 16 := by rw [← hT]; exact Nat.le_trans (Nat.div_le_self _ _) H.ok.p2
  clear fp hT
  go_wp2
  go_loopw [54] (fun i wr => ∃ b : Nat, b ≤ bl ∧ i = .int .i64 b ∧ ∃ S, S.D = D ∧ jO w wr L S (cR f T (dM fi bl sp) b)) (fun i _ => bl - (intOf i).toNat)
  case atStart => exact ⟨0, Nat.zero_le _, rfl, _, rfl, HO⟩
  case round =>
   obtain ⟨b, hb, rfl, S, hSD, hO1⟩ := hrel
   subst hSD
   have iL := iD hO1
   clear hO1
   by_cases hltb : b < bl
   ·have J6 := iD (mU f T (dM fi bl sp) b)
    obtain ⟨s1, gF⟩ := ex (cR f T (dM fi bl sp) b)
    have l4 := iD gF
    rw [gF] at iL J6
    have e0 := iL.row 0 _ rfl
    have e3 := iL.row 3 _ rfl
    have gT : s1.aw.length = k := by rw [J6.s]; exact HN
    rw [gT] at e3
    have nr := iD (F6 (H.ab iL.below) e0 e3 n1 K0)
    rw [HT] at nr
    clear gF e0 e3 gT
    go_wp2_with (fail)
    refine nr.mono ?_
    rintro e w4 ⟨rfl, q4, rfl⟩
    have Rw := iD (iL.ab (Below.drewN bV q4))
    generalize wr.drewN q4 = w4 at *
    go_wp2
    go_loopw [59] (fun i wx => ∃ j : Nat, j ≤ T ∧ i = .int .i64 j ∧ ∃ S2 : Sc, S2.D = S.D ∧ jO w wx L S2 (ee f b s1 j)) (fun i _ => T - (intOf i).toNat)
    case atStart => exact ⟨0, Nat.zero_le _, rfl, S, rfl, Rw⟩
    case round =>
     obtain ⟨j, hj, rfl, S2, Ta, QW⟩ := hrel
     have hSD2' := Ta
     have mB := iD QW
     have PJ := iD Ta
     clear QW Ta
     by_cases hltj : j < T
     ·obtain ⟨s2, je⟩ := ex (ee f b s1 j)
      have fI : Hid (Kp (dM fi bl sp) s2) := by rw [← je]; exact J6.trans (qc _ _ _ _)
      have PH : Hid (ee f b s1 (j + 1) = cT f s2 b j) := by rw [Hid, dR, je]
      rw [je] at mB
      have e0 := mB.row 0 _ rfl
      have e1 := mB.row 1 _ rfl
      have e3 := mB.row 3 _ rfl
      have e6 := mB.row 6 _ rfl
      have gT : s2.aw = sp := fI.s
      have lk : s2.first = fi := fI.f
      rw [gT, HN] at e3
      rw [lk] at e1
      have qI : (fi + b) * f.pg + f.pg ≤ f.ar.length * f.pg := by
       have h1 : (fi + b + 1) * f.pg ≤ f.ar.length * f.pg := Nat.mul_le_mul_right _ (by have := Yh.out; omega)
       rw [Nat.add_mul (fi + b), Nat.one_mul] at h1
       exact h1
      have No : j * cN k + cN k ≤ f.pg := by
       have h1 : (j + 1) * cN k ≤ T * cN k := Nat.mul_le_mul_right _ hltj
       have h2 : T * cN k ≤ f.pg := by rw [← HT]; exact Nat.div_mul_le_self _ _
       rw [Nat.add_mul, Nat.one_mul] at h1
       omega
      obtain ⟨a, ha⟩ := ex ((fi + b) * f.pg + j * cN k)
      have gU := H.ab mB.below
      have pz := iD (Hm gU HD.out e0 e1 e3 n1 K0 (by have := Yh.out; omega) b j oM oM a ha oM (fun _ => False) (fun _ h => h.elim))
      have Ru : Hid (aG s2 f b j = a ∧ s2.k = cN k) := by
       have hk : s2.k = cN k := by unfold St.k; rw [gT, HN]
       refine ⟨?_, hk⟩
       unfold aG
       rw [hk, lk, ha]
      rw [hSD2'] at pz
      clear je e0 e1 e3 e6 qI No gU ha gT lk
      go_wp2_with (fail)
      refine pz.mono ?_
      rintro e w5 ⟨A5, c5, rfl, h51, h52, tT, gC⟩
      have MS := iD (mB.ab gC)
      have jE := jL K0
      have NB := iD (E6 A5 (cN k) c5 (bT f a (cN k)) w5 tT (Ej _ _ _) h51 h52 (zE H.ok))
      obtain ⟨d, hd⟩ := ex (fg (bT f a (cN k)))
      have qp : fg (bT f (aG s2 f b j) s2.k) = d := by rw [Ru.1, Ru.2]; exact hd
      have PR := iD (iv qp)
      have Jr := iD (j9 qp)
      have HVR : Hid (∀ x ∈ d.2.1, dI x) := by rw [← hd]; exact sZ _
      rw [hd] at NB
      obtain ⟨dq, dv, de⟩ := d
      unfold Qb at NB
      simp only at NB PR Jr HVR
      generalize cN k = K at *
      clear hd qp tT gC h51 h52
      have zU : s2.aw = sp := fI.s
      by_cases Lx : de = 0
      ·subst Lx
       rw [bG] at NB
       go_wp2_with (fail)
       refine NB.mono ?_
       rintro e w6 ⟨A6, c6, rfl, oJ, fB⟩
       have DL := iD (MS.ab fB)
       have PE := iD oJ
       obtain ⟨_, _, IB, iG, jA, yQ⟩ := bM oJ
       injection IB with hcv1 _ hcv3
       subst hcv1
       subst hcv3
       have FC := iD yQ
       unfold maxLen at jA
       have e6 := DL.row 6 _ rfl
       rw [hSD2'] at e6
       clear oJ fB
       obtain ⟨m, hm⟩ := ex dv.length
       have HM := iD hm
       rw [hm] at PE iG ⊢
       by_cases hlen : m = k
       ·have dl : ((m : Int) != (k : Int)) = false := by simp; omega
        by_cases hq : dq ≤ s2.seq
        ·have dqq : decide (dq ≤ s2.seq) = true := by simpa using hq
         have FI := iD (PR (.inr (.inr hq)))
         clear hm hlen hq zU
         go_wp2
         go_roundw
         case rel => exact ⟨j + 1, oM, by go_num, S2, PJ, by rw [PH, FI]; exact DL⟩
         case measure => simp [intOf]; omega
        have dqq : decide (dq ≤ s2.seq) = false := by simpa using hq
        have HYE := iD (Jr (by
         rintro (h | h | h)
         ·exact h rfl
         ·rw [hm, zU, HN] at h; exact h hlen
         exact hq h))
        have e7 := DL.row 7 _ rfl
        have e8 := DL.row 8 _ rfl
        have z6 := DL.fz 6
        have z7 := DL.fz 7
        have z8 := DL.fz 8
        obtain ⟨W7, hW7⟩ := ex (((w6.setCell ⟨S2.D, 6, none⟩ (.int .i64 dq)).setCell ⟨S2.D, 7, none⟩ (.int .i64 b)).setCell ⟨S2.D, 8, none⟩ (.int .i64 j))
        have Jx : Hid (jO w W7 L S2 { s2 with seq := dq, block := b, slot := j } ∧ w6.grownBy W7 (some S2.D)) := by
         have := DL.qbs dq b (j : Int)
         rw [hW7] at this
         exact this
        have VG : W7.ownsRow w5.heap.size 3 1 (.slice A6 m c6) m (aA dv) := bN PE Jx.2 (fun g hg e => aL DL.own PE (by decide) g (by
         have : some S2.D = some g := e
         exact this) hg)
        have f3 := Jx.1.row 3 _ rfl
        rw [show ({ s2 with seq := dq, block := b, slot := (j : Int) } : St).aw = s2.aw from rfl, zU, HN] at f3
        have So := Jx.1.sp
        rw [show ({ s2 with seq := dq, block := b, slot := (j : Int) } : St).aw = s2.aw from rfl, zU, HN] at So
        obtain ⟨_, _, kX, VU, VT, VS⟩ := bM So
        injection kX with Wo _ hcs3
        subst Wo
        subst hcs3
        subst hlen
        have Yb := iD (Ij f3 sp VS HN n1 K0 VU VT A6 c6 dv (ku VG) HM)
        rw [hSD2'] at Yb hW7
        rw [hSD2'] at e7 e8 z6 z7 z8
        clear VG f3 So VU VT VS hm hq
        go_wp2_with (fail)
        refine Yb.mono ?_
        rintro e w8 ⟨v8, rfl, iH, kG⟩
        have ya := iD (Jx.1.ab kG)
        obtain ⟨A8, c8, rfl, _⟩ := a9 iH
        have Oo : w8.ownsRow w.heap.size 3 1 (.slice A8 m c8) m (aA (ez sp dv)) := mT iH Jx.1.below.size
        have ib : (ez sp dv).length = m := by rw [gD (by rw [HM, HN])]; exact HN
        have xd : Hid (jO w (w8.setCell ⟨S2.D, 4, none⟩ (.slice A8 m c8)) L { S2 with Av := A8, cv := c8 } { s2 with seq := dq, block := b, slot := j, saved := ez sp dv }) := by
         refine ya.cell 4 (.slice A8 m c8) { S2 with Av := A8, cv := c8 } { s2 with seq := dq, block := b, slot := j, saved := ez sp dv } rfl ?_ ⟨rfl, rfl, rfl⟩ (by simp only [ib]; exact Oo) ya.p0 ya.v0 ya.t0
         unfold gS Sc.cells
         simp only [ib]
         rfl
        have f4 := ya.row 4 _ rfl
        have zz4 := ya.fz 4
        rw [hSD2'] at f4 zz4
        have aa1 : Hid (ee f b s1 (j + 1) = { s2 with seq := dq, block := b, slot := j, saved := ez sp dv }) := by
         rw [Hid, PH, HYE]
         simp only [zU]
        rw [hSD2'] at xd
        clear iH kG Oo ib zU
        go_wp2
        go_roundw
        case rel => exact ⟨j + 1, oM, by go_num, { S2 with D := S.D, Av := A8, cv := c8 }, rfl, by rw [aa1]; exact xd⟩
        case measure => simp [intOf]; omega
       have dl : ((m : Int) != (k : Int)) = true := by simp; omega
       have FI := iD (PR (.inr (.inl (by rw [hm, zU, HN]; exact hlen))))
       clear hm hlen zU
       go_wp2
       go_roundw
       case rel => exact ⟨j + 1, oM, by go_num, S2, PJ, by rw [PH, FI]; exact DL⟩
       case measure => simp [intOf]; omega
      have U7 := iD (dJ Lx)
      rw [U7] at NB
      have FI := iD (PR (.inl Lx))
      clear Lx zU
      go_wp2_with (fail)
      refine NB.mono ?_
      rintro e w6 ⟨A6, c6, rfl, oJ, fB⟩
      have DL := iD (MS.ab fB)
      clear oJ fB
      go_wp2
      go_roundw
      case rel => exact ⟨j + 1, oM, by go_num, S2, PJ, by rw [PH, FI]; exact DL⟩
      case measure => simp [intOf]; omega
     have hjT : j = T := oM
     subst hjT
     have Zx : Hid (cR f j (dM fi bl sp) (b + 1) = ee f b s1 j) := by rw [Hid, fa, l4]
     go_wp2
     go_roundw
     case rel => exact ⟨b + 1, oM, by go_num, S2, PJ, by rw [Zx]; exact mB⟩
     case measure => simp [intOf]; omega
   have nD : b = bl := oM
   subst nD
   have J6 := iD (mU f T (dM fi b sp) b)
   have HF : Hid (aJ f fi b sp = { cR f T (dM fi b sp) b with aj := (cR f T (dM fi b sp) b).saved }) := by
    unfold aJ
    rw [Hid, HN, HT]
   obtain ⟨s1, gF⟩ := ex (cR f T (dM fi b sp) b)
   rw [gF] at iL J6 HF
   have lR : s1.saved.length = k := by
    rw [J6.l (Im _ _ _)]
    exact HN
   have abb := iD lR
   have fL := iL.sv
   have e4 := iL.row 4 _ rfl
   rw [lR] at fL e4
   have aby := iD (ng S.Av k S.cv wr.heap.size s1.saved wr (ku fL) cV lR oM)
   clear gF lR fL
   go_wp2_with (fail)
   refine aby.mono ?_
   rintro e w9 ⟨v9, rfl, kU, oL⟩
   obtain ⟨A9, c9, rfl, _, _, hg9⟩ := a9 kU
   obtain ⟨g9, rfl, Wf, aau⟩ := hg9 oM
   have DM := iD (iL.done H PQ abb kU oL)
   have xd := iD (iL.ab oL)
   have f5 := xd.row 5 _ rfl
   have z5 := xd.fz 5
   have hDl := iL.lt.1
   have JS := iL.below.size
   clear kU oL e4
   go_wp2
   go_ret2
   exact ⟨{ S with G := g9, cg := c9 }, rfl, by rw [HF]; exact DM.1, DM.2, hDl, by simp only; omega⟩
end
theorem En (hs : ∀ p ∈ sp, p.ok) (hv : ∀ x ∈ v, dI x) : ∀ x ∈ ez sp v, dI x := by
 intro x hx
 unfold ez at hx
 rw [List.mem_iff_getElem?] at hx
 obtain ⟨i, hi⟩ := hx
 rw [List.getElem?_zipWith] at hi
 cases hp : sp[i]? with
 | none => rw [hp] at hi; simp at hi
 | some p =>
  cases hx : v[i]? with
  | none => rw [hp, hx] at hi; simp at hi
  | some y =>
   rw [hp, hx] at hi
   simp at hi
   subst hi
   unfold ey
   split
   ·exact hv y (List.mem_of_getElem? hx)
   exact (hs p (List.mem_of_getElem? hp)).d
structure Jo (f : Fl) (fi bl : Nat) (sp : List eB) (s : St) : Prop where
 kp : Kp (dM fi bl sp) s
 sv : s.saved.length = sp.length
 si : ∀ x ∈ s.saved, dI x
 q1 : 0 ≤ s.seq
 q2 : s.seq ≤ 1099511627776
 b : s.block < bl
 s1 : -1 ≤ s.slot
 s2 : s.slot < ((f.pg / cN sp.length : Nat) : Int)
 re : s.af = false ∧ s.cf = [] ∧ s.values = [] ∧ s.bH = 0 ∧ s.bg = 0 ∧ s.done = 0 ∧ s.erase = false ∧ s.bt = false
theorem Jo.init (hs : ∀ p ∈ sp, p.ok) (hb : 1 ≤ bl) : Jo f fi bl sp (dM fi bl sp) :=
 ⟨.refl _, by simp [dM], (by
  intro x hx
  simp only [dM, List.mem_map] at hx
  obtain ⟨p, hp, rfl⟩ := hx
  exact (hs p hp).d), by simp [dM], by simp [dM], by simp only [dM]; omega, by simp [dM], by simp only [dM]; generalize f.pg / cN sp.length = T; omega, ⟨rfl, rfl, rfl, rfl, rfl, rfl, rfl, rfl⟩⟩
theorem Jo.step (hs : ∀ p ∈ sp, p.ok) (h : Jo f fi bl sp s) (hb : b < bl) (hj : j < f.pg / cN sp.length) : Jo f fi bl sp (cT f s b j) := by
 have hk := h.kp.trans (tP f s b j)
 obtain ⟨d, hd⟩ := ex (fg (bT f (aG s f b j) s.k))
 have gT : s.aw = sp := h.kp.s
 by_cases hc : d.2.2 ≠ 0 ∨ d.2.1.length ≠ s.aw.length ∨ d.1 ≤ s.seq
 ·rw [iv hd hc]
  exact h
 rw [j9 hd hc] at hk ⊢
 have h0 : d.2.2 = 0 := oM
 have hl : d.2.1.length = s.aw.length := oM
 have dc := GM (ps := bT f (aG s f b j) s.k) (by rw [hd]; exact h0)
 rw [hd] at dc
 obtain ⟨e1, e2, e3, e4⟩ := ko dc.2.1
 have hv : ∀ x ∈ d.2.1, dI x := by rw [← hd]; exact sZ _
 exact ⟨hk, by simp only; rw [gD (by rw [hl]), gT], En (by rw [gT]; exact hs) hv, by simp only; omega, by simp only; omega, hb, by simp only; omega, by simp only; exact Int.ofNat_lt.2 hj, h.re⟩
theorem Jo.row (hs : ∀ p ∈ sp, p.ok) (h : Jo f fi bl sp s) (hb : b < bl) (hn : n ≤ f.pg / cN sp.length) : Jo f fi bl sp (ee f b s n) := by
 induction n with
 | zero => exact h
 | succ n ih => rw [dR]; exact (ih oM).step hs hb oM
theorem Jo.all (hs : ∀ p ∈ sp, p.ok) (h : Jo f fi bl sp s) {m : Nat} (hm : m ≤ bl) : Jo f fi bl sp (cR f (f.pg / cN sp.length) s m) := by
 induction m with
 | zero => exact h
 | succ m ih => rw [fa]; exact (ih oM).row hs oM cV
theorem kl (hs : ∀ p ∈ sp, p.ok) (he : cI f fi bl sp = 0) :
 Jo f fi bl sp (cR f (f.pg / cN sp.length) (dM fi bl sp) bl) := by
 obtain ⟨hd, b2, Zf, f0, f1, n1, K0, fh, uS⟩ := jm he
 exact (Jo.init hs oM).all hs cV
theorem kv (hs : ∀ p ∈ sp, p.ok) (he : cI f fi bl sp = 0) : bC f (aJ f fi bl sp) := by
 obtain ⟨hd, b2, Zf, f0, f1, n1, K0, fh, uS⟩ := jm he
 have h := kl hs he
 unfold aJ
 simp only
 generalize cR f (f.pg / cN sp.length) (dM fi bl sp) bl = s at *
 have gT : s.aw = sp := h.kp.s
 have cB : s.aa = bl := h.kp.b
 have lk : s.first = fi := h.kp.f
 obtain ⟨r1, r2, r3, r4, r5, r6, r7, r8⟩ := h.re
 have lR : 1 ≤ f.pg / cN sp.length := (Nat.le_div_iff_mul_le (j7 n1)).2 oM
 exact ⟨by simp only [gT]; exact n1, by simp only [gT]; exact K0, by simp only [gT]; exact hs, by simp only [cB]; omega, by simp only [cB]; omega, by simp only [cB, lk]; omega, by unfold St.k; simp only [gT]; exact uS,
  by simp only [gT]; exact h.sv, by simp only [gT]; exact h.sv, .inr r8, h.si, h.si, by simp only [r3]; simp, h.q1, h.q2, by simp only [cB]; exact h.b, h.s1, by unfold bm St.k; simp only [gT]; exact h.s2,
  by simp only [r8]; simp, by simp only [r2]; simp, by simp only [r4, cB]; omega, by unfold bm St.k; simp only [r5, gT]; exact lR, by simp only [r8]; simp, by simp only [r6]; exact Nat.zero_le _, by simp only [r8]; simp⟩
theorem KC {off : Nat} (h : Rd w B (some ⟨b, off, none⟩) xs) (hB : B ≤ w.heap.size) (hX : ¬ X b) : cn X w (some ⟨b, off, none⟩) xs := fun hx => by
 obtain ⟨b', uq, e, aY, hc⟩ := h hx
 obtain ⟨rfl, rfl⟩ : b = b' ∧ off = uq := by simpa using e
 exact ⟨b, off, rfl, Nat.lt_of_lt_of_le aY hB, hX, hc⟩
theorem yG {w0 : World} (h : bB w0 w L f) (fiI blI : Int) (fi bl : Nat) (lk : fiI = fi) (cB : blI = bl) (A : Option Addr) (n c : Nat) (sp : List eB) (hA : Rd w w.heap.size A (bK sp)) (hn : sp.length = n) (qm : n ≤ c) (fQ : c ≤ maxLen) (dc : ∀ p ∈ sp, p.ok) (he : cI f fi bl sp = 0) (Iw : cn L.E w L.Ap (ag .u8 f.az)) :
 Calls prog 64 #[.pointer (some ⟨L.d, 0, none⟩), .int .i64 fiI, .int .i64 blI, .slice A n c] w (Ri w0 w L f (aJ f fi bl sp)) := by
 subst lk cB
 exact KQ h fi bl A n c sp hA hn qm fQ dc he Iw
structure Ev where
 k : Int
 a : Int
 b : Int
 P : Option Addr
 q : Nat
 r : Nat
 p : List Int
def Ev.cells (x : Ev) : List Value := [.int .u8 x.k, .int .i64 x.a, .int .i64 x.b, .slice x.P x.q x.r]
theorem Ev.nh (x : Ev) : x.cells.length = 4 := rfl
def sV (l : List Ev) : List Value := l.flatMap Ev.cells
structure Ev.ok (x : Ev) (w : World) (B0 : Nat) : Prop where
 rp : Rd w B0 x.P (ag .u8 x.p)
 lp : x.p.length = x.q
 mp : x.q ≤ x.r
 cp : x.r ≤ maxLen
 bp : Bytes x.p
 sq : x.q ≤ 140737488351232
 k0 : 0 ≤ x.k
 k1 : x.k < 256
 a0 : dI x.a
 b0 : dI x.b
theorem Ev.ok.below {x : Ev} {B0 B1 : Nat} (h : x.ok w B0) (hb : Below B1 w w') (hB : B0 ≤ B1) : x.ok w' B0 :=
 ⟨h.rp.below hb hB, h.lp, h.mp, h.cp, h.bp, h.sq, h.k0, h.k1, h.a0, h.b0⟩
theorem Rd.ev {l : List Ev} (h : Rd w B A (sV l)) {x : Ev} (hx : l[k]? = some x) :
 ∃ b off, A = some ⟨b, off, none⟩ ∧ b < B ∧ w.cell? ⟨b, off + k * 4, none⟩ = some (.int .u8 x.k) ∧ w.cell? ⟨b, off + k * 4 + 1, none⟩ = some (.int .i64 x.a) ∧ w.cell? ⟨b, off + k * 4 + 2, none⟩ = some (.int .i64 x.b) ∧
  w.cell? ⟨b, off + k * 4 + 3, none⟩ = some (.slice x.P x.q x.r) := by
 have key : ∀ j u, x.cells[j]? = some u → (sV l)[k * 4 + j]? = some u := fun j u hu => flat_get Ev.cells 4 Ev.nh l k j x u hx hu
 have gB : sV l ≠ [] := by
  intro e
  have := key 0 _ rfl
  rw [e] at this
  simp at this
 obtain ⟨b, off, e, aY, hc⟩ := h gB
 exact ⟨b, off, e, aY, hc _ _ (key 0 _ rfl), hc _ _ (key 1 _ rfl), hc _ _ (key 2 _ rfl), hc _ _ (key 3 _ rfl)⟩
def mJ : List Ev → Nat
 | [] => 0
 | x :: l => 10 + min x.q 10000 + mJ l
theorem BB (a b : List Ev) : mJ (a ++ b) = mJ a + mJ b := by
 induction a with
 | nil => simp [mJ]
 | cons x a ih => simp only [List.cons_append, mJ, ih]; omega
theorem FY (l : List Ev) : mJ l ≤ 10010 * l.length := by
 induction l with
 | nil => simp [mJ]
 | cons x a ih => simp only [mJ, List.length_cons]; omega
def vM (l : List Ev) : Bool := decide (200 < l.length ∨ 20000 < mJ l)
theorem vB {fn : Func} {p : Tmp} {ty : TypeId} (h : fn.results = #[.cell p ty]) (tmps : Array Value) (P : Program) (w : World) :
 (results fn tmps).run P w = ((asAddr (tmps.getD p undef)).run P w).andThen fun a w₁ => (loadVar ty a).run P w₁ := by
 simp only [results, h]
 simp [Sem.run_bind, Result.andThen]
end Go.Proofs.YtjdknddnanopaaaGreat
