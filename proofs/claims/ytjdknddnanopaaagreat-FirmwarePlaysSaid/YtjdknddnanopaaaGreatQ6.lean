/-
  Part 6 of the proof.
-/
import Derived.Test.YtjdknddnanopaaaGreatQ5
namespace Go.Proofs.YtjdknddnanopaaaGreat
open Go.RowKit Tryz
set_option maxRecDepth 100000
set_option maxHeartbeats 16000000
set_option linter.all false
variable {l sp : List eB} {f : Fl} {w w' : World} {B D a b base bl c e fi g j k n size : Nat} {v : List Int} {s : St} {p : eB} {A : Option Addr} {x : Int} {vs xs : List Value} {X : Nat → Prop} {L : Lc}
theorem zK : (prog.info? 132).map (fun i => (i.zero, i.size, i.bytes)) = some (some (.agg #[.int .i64 0, .int .i64 0, .int .i64 0]), 3, 24) := by kernel_rfl
theorem ER (a : Addr) (n c : Nat) (w : World) : (binOp .eql 40 (.slice (some a) n c) (.slice none 0 0)).run prog w = .ok (.bool false) w := by kernel_rfl
theorem ES (n c : Nat) (w : World) : (binOp .eql 40 (.slice none n c) (.slice none 0 0)).run prog w = .ok (.bool true) w := by kernel_rfl
theorem mP (l : List eB) : ∀ u ∈ bK l, u.oneCell' = true := by
 intro u hu
 simp only [bK, List.mem_flatMap] at hu
 obtain ⟨x, _, h⟩ := hu
 simp only [eB.cells, List.mem_cons, List.not_mem_nil, or_false] at h
 rcases h with rfl | rfl | rfl <;> rfl
theorem BQ (l : List eB) : (bK l).length = l.length * 3 := lI eB.cells 3 (fun _ => rfl) l
theorem E7 (A : Option Addr) (n c B : Nat) (b : List eB) (w : World) (hA : Rd w B A (bK b)) (hB : B ≤ w.heap.size) (hn : b.length = n) (hm : n ≤ 1000000) :
 Calls prog 99 #[.slice A n c] w fun e w' => ∃ v', e = .returned v' ∧ w'.ownsRow w.heap.size 132 3 v' n (bK b) ∧ bW w w' := by
 cases A with
 | none =>
  have hb : b = [] := by
   cases nA : b with
   | nil => rfl
   | cons x r =>
    obtain ⟨_, _, e, _⟩ := hA (by rw [nA]; simp [bK, eB.cells])
    cases e
  subst hb
  simp at hn
  subst hn
  have h1 := ES 0 c
  clear hA
  go_enter func99, ntmps99
  go_wp2
  go_ret
  exact ⟨_, rfl, World.ownsRow_nil .., Below.refl _ _⟩
 | some a =>
  have h1 := ER a n c
  have HA := iD hA
  have zj : Hid ((bK b).length = n * 3) := by rw [Hid, BQ, hn]
  obtain ⟨i9, Ox, En, Em, El⟩ := info_parts zK
  have nQ : 0 ≤ maxLen := Nat.zero_le _
  clear hA hn
  go_enter func99, ntmps99
  go_wp2_with (at_builtin; refine aM _ rfl _ _ 40 rfl w.heap.size 132 i9 (.agg #[.int .i64 0, .int .i64 0, .int .i64 0]) 3 24 underlying40 Ox En Em El rfl oM _ 0 [] rfl (World.ownsRow_lit w #[] 0 cV nQ rfl) B _ n c (bK b) rfl (HA.below ((Below.refl w.heap.size w).alloc cV _) hB) zj (mP _) (by unfold maxLen; omega) oM (by simp) ?_)
  intro v' w2 bX hgrow kj
  have fK : Hid (bW w w2) := ((Below.refl w.heap.size w).alloc cV _).grown hgrow (by simp) (fun k hk => by have hk' : some w.heap.size = some k := hk; injection hk'; omega)
  try simp only [Nat.zero_add, List.nil_append] at bX
  have HO := iD bX
  clear bX hgrow kj
  go_wp2
  go_ret
  exact ⟨_, rfl, by simpa using HO.out, fK.out⟩
def fA (p : eB) : Bool := decide (p.df < p.lo ∨ p.hi < p.df)
theorem CY (hp : l[k]? = some p) (h : (l.take k).any fA = false) (hb : fA p = false) : (l.take (k + 1)).any fA = false := by
 rw [bA l k p hp, List.any_append, h, Bool.false_or]
 simp [hb]
theorem Ay (hp : l[k]? = some p) (hb : fA p = true) : l.any fA = true := List.any_eq_true.2 ⟨p, List.mem_of_getElem? hp, hb⟩
section
variable {w0 w : World} {L : Lc} {f : Fl}
theorem I3 (h : bB w0 w L f) (first aa : Int) (Cr : dH first) (dB : dH aa) (A : Option Addr) (n c : Nat) (sp : List eB) (hA : Rd w w.heap.size A (bK sp)) (hn : sp.length = n) (qa : n ≤ c) (fS : c ≤ maxLen) (dc : ∀ p ∈ sp, p.ok) :
 Calls prog 98 #[.pointer (some ⟨L.d, 0, none⟩), .int .i64 first, .int .i64 aa, .slice A n c] w fun e w' => e = .returned (fy (cJ f first aa sp)) ∧ bW w w' := by
 unfold maxLen at fS
 unfold dH at Cr dB
 have h1 := gz L.d
 have DD := iD (nZ h)
 have HB := iD (wS h)
 have hw := h.ok.b2
 have HA := iD hA
 have HN := iD hn
 have gV := iD dc
 have H := iD h
 have rH := iD (fun w => gn aa 2 16 w)
 have oS := iD (fun w => gn n 1 48 w)
 by_cases hd : f.aF = true
 ·have HE : Hid (cJ f first aa sp = 20) := by unfold cJ; rw [Hid, iP hd]
  rw [hd] at DD
  clear h hA hn dc hd
  go_enter func98, ntmps98
  go_wp2_with (fail)
  refine DD.mono ?_
  rintro e w1 ⟨rfl, rfl⟩
  go_wp2
  go_ret
  rw [HE]
  exact ⟨rfl, Below.refl _ _⟩
 have kX : f.aF = false := by simpa using hd
 have HD := iD kX
 rw [kX] at DD
 by_cases hb : 2 ≤ aa ∧ aa ≤ 16
 case neg =>
  have HE : Hid (cJ f first aa sp = 3) := by unfold cJ; rw [Hid, iN hd, iP oM]
  rw [decide_eq_false hb] at rH
  clear h hA hn dc hd kX hb
  go_enter func98, ntmps98
  go_wp2_with (fail)
  refine DD.mono ?_
  rintro e w1 ⟨rfl, rfl⟩
  go_wp2_with (fail)
  refine (rH _).mono ?_
  rintro e w1 ⟨rfl, rfl⟩
  go_wp2
  go_ret
  rw [HE]
  exact ⟨rfl, Below.refl _ _⟩
 rw [decide_eq_true hb] at rH
 by_cases hi : first < 0 ∨ (f.aq.length : Int) - aa < first
 ·have HE : Hid (cJ f first aa sp = 10) := by unfold cJ; rw [Hid, iN hd, iN oM, iP hi]
  by_cases Sr : first < 0
  ·have d1 : decide (first < 0) = true := by simpa using Sr
   clear h hA hn dc hd kX hi
   go_enter func98, ntmps98
   go_wp2_with (fail)
   refine DD.mono ?_
   rintro e w1 ⟨rfl, rfl⟩
   go_wp2_with (fail)
   refine (rH _).mono ?_
   rintro e w1 ⟨rfl, rfl⟩
   go_wp2
   go_ret
   rw [HE]
   exact ⟨rfl, Below.refl _ _⟩
  have Ui : (f.aq.length : Int) - aa < first := oM
  have d1 : decide (first < 0) = false := by simpa using Sr
  obtain ⟨dZ, gL⟩ := hb
  generalize f.aq.length = nw at *
  have d2 : decide ((nw : Int) - aa < first) = true := by simpa using Ui
  clear h hA hn dc hd kX hi Sr
  go_enter func98, ntmps98
  go_wp2_with (fail)
  refine DD.mono ?_
  rintro e w1 ⟨rfl, rfl⟩
  go_wp2_with (fail)
  refine (rH _).mono ?_
  rintro e w1 ⟨rfl, rfl⟩
  go_wp2_with (fail)
  refine HB.mono ?_
  rintro e w1 ⟨rfl, rfl⟩
  go_wp2
  go_ret
  rw [HE]
  exact ⟨rfl, Below.refl _ _⟩
 have Sr : 0 ≤ first := oM
 have Ui : first ≤ (f.aq.length : Int) - aa := oM
 have d1 : decide (first < 0) = false := by simpa using Sr
 obtain ⟨dZ, gL⟩ := hb
 by_cases hl : 1 ≤ n ∧ n ≤ 48
 case neg =>
  have HE : Hid (cJ f first aa sp = 3) := by unfold cJ; rw [Hid, iN hd, iN oM, iN hi, iP oM]
  rw [decide_eq_false (show ¬ (1 ≤ (n : Int) ∧ (n : Int) ≤ 48) by omega)] at oS
  generalize f.aq.length = nw at *
  have d2 : decide ((nw : Int) - aa < first) = false := by simpa using Ui
  clear h hA hn dc hd kX hi hl
  go_enter func98, ntmps98
  go_wp2_with (fail)
  refine DD.mono ?_
  rintro e w1 ⟨rfl, rfl⟩
  go_wp2_with (fail)
  refine (rH _).mono ?_
  rintro e w1 ⟨rfl, rfl⟩
  go_wp2_with (fail)
  refine HB.mono ?_
  rintro e w1 ⟨rfl, rfl⟩
  go_wp2_with (fail)
  refine (oS _).mono ?_
  rintro e w1 ⟨rfl, rfl⟩
  go_wp2
  go_ret
  rw [HE]
  exact ⟨rfl, Below.refl _ _⟩
 rw [decide_eq_true (show 1 ≤ (n : Int) ∧ (n : Int) ≤ 48 by omega)] at oS
 have HE : Hid (cJ f first aa sp = if sp.any fA = true then 3 else if f.pg < cO n then 11 else 0) := by
  unfold cJ
  rw [Hid, iN hd, iN oM, iN hi, iN oM, hn]
  rfl
 have jk := iD (fun (w' : World) (hb : bW w w') => iq (h.ab hb))
 have XT := iD (fun w => mO n oM w)
 have xN := h.ok.p2
 have jG := jL hl.2
 generalize f.aq.length = nw at *
 have d2 : decide ((nw : Int) - aa < first) = false := by simpa using Ui
 obtain ⟨JP, Ey⟩ := hl
 clear h hA hn dc hd kX hi
 go_enter func98, ntmps98
 go_wp2_with (fail)
 refine DD.mono ?_
 rintro e w1 ⟨rfl, rfl⟩
 go_wp2_with (fail)
 refine (rH _).mono ?_
 rintro e w1 ⟨rfl, rfl⟩
 go_wp2_with (fail)
 refine HB.mono ?_
 rintro e w1 ⟨rfl, rfl⟩
 go_wp2_with (fail)
 refine (oS _).mono ?_
 rintro e w1 ⟨rfl, rfl⟩
 clear d1 d2
 go_wp2
 go_loopw [44] (fun i wr => ∃ k : Nat, k ≤ n ∧ i = .int .i64 k ∧ (sp.take k).any fA = false ∧ bW w wr) (fun i _ => n - (intOf i).toNat)
 case atStart => exact ⟨0, Nat.zero_le _, rfl, rfl, Below.refl _ _⟩
 case round =>
  obtain ⟨k, hk, rfl, ht, Qz⟩ := hrel
  have HT := iD ht
  have gj := iD Qz
  clear ht Qz
  by_cases aW : k < n
  ·obtain ⟨p, hp⟩ := getElem?_of_lt (l := sp) (k := k) (by rw [HN]; exact aW)
   obtain ⟨b, off, rfl, cB, e0, e1, e2⟩ := (cn.of (X := fun _ => False) (HA.below gj cV) gj.size (fun _ h => h.elim)).par hp
   have HP := iD hp
   have jd : Hid (bW w (wr.alloc (.cells #[.int .i64 p.lo, .int .i64 p.hi, .int .i64 p.df] 132))) := gj.alloc gj.size _
   clear hp
   by_cases q1 : p.df < p.lo
   ·have d1 : decide (p.df < p.lo) = true := by simpa using q1
    have HF : Hid (cJ f first aa sp = 3) := by
     rw [Hid, HE, iP (Ay HP (by unfold fA; rw [decide_eq_true (.inl q1)]))]
    clear q1
    go_wp2
    go_ret
    rw [HF]
    exact ⟨rfl, jd⟩
   have d1 : decide (p.df < p.lo) = false := by simpa using q1
   by_cases q2 : p.hi < p.df
   ·have d2 : decide (p.hi < p.df) = true := by simpa using q2
    have HF : Hid (cJ f first aa sp = 3) := by
     rw [Hid, HE, iP (Ay HP (by unfold fA; rw [decide_eq_true (.inr q2)]))]
    clear q1 q2
    go_wp2
    go_ret
    rw [HF]
    exact ⟨rfl, jd⟩
   have d2 : decide (p.hi < p.df) = false := by simpa using q2
   have HS := iD (CY HP HT (by unfold fA; rw [decide_eq_false oM]))
   clear q1 q2
   go_wp2
   go_roundw
   case rel => exact ⟨k + 1, oM, by go_num, HS, jd⟩
   case measure => simp [intOf]; omega
  have kg : k = n := oM
  subst kg
  have Bj : Hid (sp.any fA = false) := by
   have := HT.out
   rwa [List.take_of_length_le (by rw [HN]; exact Nat.le_refl _)] at this
  have XO := iD (jk wr gj)
  by_cases hs : f.pg < cO k
  ·have HF : Hid (cJ f first aa sp = 11) := by rw [Hid, HE, Bj, iN (by decide), iP hs]
   generalize f.pg = pg at *
   generalize cO k = K at *
   have d3 : decide (pg < K) = true := by simpa using hs
   clear HE
   go_wp2_with (fail)
   refine (XT _).mono ?_
   rintro e w1 ⟨rfl, rfl⟩
   go_wp2_with (fail)
   refine XO.mono ?_
   rintro e w1 ⟨rfl, rfl⟩
   go_wp2
   go_ret
   rw [HF]
   exact ⟨rfl, gj⟩
  have HF : Hid (cJ f first aa sp = 0) := by rw [Hid, HE, Bj, iN (by decide), iN hs]
  generalize f.pg = pg at *
  generalize cO k = K at *
  have d3 : decide (pg < K) = false := by simpa using hs
  clear HE
  go_wp2_with (fail)
  refine (XT _).mono ?_
  rintro e w1 ⟨rfl, rfl⟩
  go_wp2_with (fail)
  refine XO.mono ?_
  rintro e w1 ⟨rfl, rfl⟩
  go_wp2
  go_ret
  rw [HF]
  exact ⟨rfl, gj⟩
end
structure Pm (w wr : World) (v : Value) (vs : List Value) (pg : Nat → List Int) (k : Nat) : Prop where
 own : wr.ownsRow w.heap.size 32 1 v k vs
 ZW : ∀ i, i < k → ∃ g c, vs[i]? = some (.slice (some ⟨g, 0, none⟩) 64 c) ∧ wr.ownsRow w.heap.size 5 1 (.slice (some ⟨g, 0, none⟩) 64 c) 64 (ag .u8 (pg i))
 len : ∀ i, i < k → (pg i).length = 64
 below : bW w wr
theorem Pm.ab {wr : World} {v : Value} {pg : Nat → List Int} (h : Pm w wr v vs pg k) (hb : bW wr w') : Pm w w' v vs pg k :=
 ⟨aD h.own hb, fun i hi => by
  obtain ⟨g, c, h1, h2⟩ := h.ZW i hi
  exact ⟨g, c, h1, aD h2 hb⟩, h.len, h.below.trans (hb.mono h.below.size)⟩
theorem Pm.push {W W' : World} {v v' : Value} {pg : Nat → List Int} {o : Obj} (h : Pm w W v vs pg k) 
 (hp : W.ownsRow w.heap.size 5 1 (.slice (some ⟨g, 0, none⟩) 64 c) 64 (ag .u8 (pg k))) (hlen : (pg k).length = 64)
 (ho : W'.ownsRow w.heap.size 32 1 v' (k + 1) (vs ++ [.slice (some ⟨g, 0, none⟩) 64 c])) (hg : (W.alloc o).grownBy W' v.ownBlock) : Pm w W' v' (vs ++ [.slice (some ⟨g, 0, none⟩) 64 c]) pg (k + 1) := by
 have hb : bW W (W.alloc o) := bV.alloc cV o
 have h1 := h.ab hb
 have sO := aD hp hb
 have hl : vs.length = k := by have := h.own.1; simpa using this
 refine ⟨ho, fun i hi => ?_, fun i hi => ?_, h1.below.grown hg h1.below.size (fun k hk => (h1.own.lt k hk).1)⟩
 ·by_cases e : i = k
  ·subst e
   exact ⟨g, c, by rw [List.getElem?_append_right oM, hl]; simp, bN sO hg (fun g' dr e' => aL h1.own sO (by decide) g' e' dr)⟩
  obtain ⟨g', c', a1, a2⟩ := h1.ZW i oM
  exact ⟨g', c', by rw [List.getElem?_append_left oM]; exact a1, bN a2 hg (fun g2 dr e' => aL h1.own a2 (by decide) g2 e' dr)⟩
 by_cases e : i = k
 ·subst e; exact hlen
 exact h.len i oM
theorem Pm.rd {wr : World} {pg : Nat → List Int} (h : Pm w wr (.slice A n c) vs pg n) (X : Nat → Prop) (hX : ∀ b, X b → b < w.heap.size) : lU X wr A ((List.range n).map pg) := by
 have hl : vs.length = n := by have := h.own.1; simpa using this
 refine ⟨vs, lA hl h.own hX, by simp [hl], fun i p hp => ?_⟩
 have hi : i < n := by have := (List.getElem?_eq_some_iff.1 hp).1; simpa using this
 rw [List.getElem?_map, List.getElem?_range hi] at hp
 injection hp with hp
 subst hp
 obtain ⟨g, c, a1, a2⟩ := h.ZW i hi
 obtain ⟨_, _, hv, h1, h2, _⟩ := bL a2
 injection hv with iE jB yN
 subst yN
 exact ⟨_, 64, _, a1, h.len i hi, h1, h2, lA (by rw [aE, h.len i hi]) a2 hX⟩
section
variable {w0 w : World} {L : Lc} {f : Fl}
theorem Hg (h : bB w0 w L f) (hd : f.aF = false) (c0 : w.cell? ⟨D, 0, none⟩ = some (.pointer (some ⟨L.d, 0, none⟩))) (c1 : w.cell? ⟨D, 1, none⟩ = some (.int .i64 fi)) (c3 : w.cell? ⟨D, 3, none⟩ = some (.slice A n c)) (n1 : 1 ≤ n) (n2 : n ≤ 48) (lX : fi ≤ 64) 
 (b j : Nat) (dZ : b < 1000) (JQ : j < 1000) (a : Nat) (ha : (fi + b) * f.pg + j * cO n = a) (ny : a + cO n ≤ f.aq.length * f.pg) (X : Nat → Prop) (hX : ∀ b, X b → b < w.heap.size) :
 Calls prog 101 #[.pointer (some ⟨D, 0, none⟩), .int .i64 b, .int .i64 j] w fun e w' => ∃ A' c', e = .returned (.tuple #[.slice A' (cO n) c', .nilIface]) ∧ cO n ≤ c' ∧ c' ≤ maxLen ∧ lU X w' A' (bT f a (cO n)) ∧ bW w w' := by
 have g1 := ne_nil
 have ID := World.block_lt_of_cell? w _ c0
 have jk : Hid (∀ W', bW w W' → Calls prog 113 #[.pointer (some ⟨D, 0, none⟩), .int .i64 b, .int .i64 j] W' fun e w' => e = .returned (.int .i64 (a : Nat)) ∧ ∃ q, w' = W'.drewN q) := fun W' cB => by
  rw [← ha]
  exact FU (h.ab cB) ((cB.cell (p := ⟨D, 0, none⟩) ID).trans c0) ((cB.cell (p := ⟨D, 1, none⟩) ID).trans c1) ((cB.cell (p := ⟨D, 3, none⟩) ID).trans c3) n1 n2 lX (b : Int) (j : Int) b j rfl rfl dZ JQ
 have Ny := iD (fun w => mO n oM w)
 have jG := jL n2
 have hm := gy h.ok
 have HX := iD hX
 have yb : Hid (∀ i, i < cO n → (aB f (a + i)).length = 64) := fun i hi => kn h.ok oM
 have ph : Hid (∀ W' (i : Nat), bW w W' → i < cO n → Calls prog 108 #[.pointer (some ⟨L.d, 0, none⟩), .int .i64 ((a : Int) + (i : Int))] W' fun e w' => ∃ g c, e = .returned (.tuple #[.slice (some ⟨g, 0, none⟩) 64 c, .nilIface]) ∧ w'.ownsRow W'.heap.size 5 1 (.slice (some ⟨g, 0, none⟩) 64 c) 64 (ag .u8 (aB f (a + i))) ∧ bW W' w') := by
  intro W' i cB hi
  have e1 : (a : Int) + (i : Int) = ((a + i : Nat) : Int) := by push_cast; rfl
  refine (vD (h.ab cB) ((a : Int) + (i : Int))).mono ?_
  rw [e1, qG hd (by omega : a + i < f.aq.length * f.pg)]
  simp only [yb.out i hi]
  rintro e w' ⟨v', rfl, ho, nA⟩
  obtain ⟨A2, c2, rfl, _, _, hg⟩ := a9 ho
  obtain ⟨g, rfl, _⟩ := hg oM
  exact ⟨g, c2, rfl, ho, nA⟩
 have DE : Hid (∀ W', bW w W' → W'.cell? ⟨D, 0, none⟩ = some (.pointer (some ⟨L.d, 0, none⟩))) := fun W' cB => (cB.cell (p := ⟨D, 0, none⟩) ID).trans c0
 have Ww : a ≤ 1024 := oM
 obtain ⟨K, hK⟩ := ex (cO n)
 rw [hK] at jG Ny yb ph ⊢
 obtain ⟨i23, hi, uz, P7, Ce⟩ := info_parts zM
 clear h hd hX ha ny hm hK c0 c1
 go_enter func101, ntmps101
 go_wp2_with (fail)
 refine (Ny w).mono ?_
 rintro e w1 ⟨rfl, rfl⟩
 go_wp2
 go_loopw [8, 18] (fun v i wr => ∃ k : Nat, k ≤ K ∧ i = .int .i64 k ∧ ∃ vs, Pm w wr v vs (fun i => aB f (a + i)) k) (fun _ i _ => K - (intOf i).toNat)
 case atStart => exact ⟨0, Nat.zero_le _, rfl, [], ⟨World.ownsRow_nil _ _ _ _, fun i hi => absurd hi oM, fun i hi => absurd hi oM, Below.refl _ _⟩⟩
 case round =>
  obtain ⟨k, hk, rfl, vs, hI⟩ := hrel
  have HI := iD hI
  have gj := iD hI.below
  clear hI
  by_cases aW : k < K
  ·have c0 := DE wr gj
   have t0 : IntKind.i64.wrap ((a : Int) + (k : Int)) = (a : Int) + (k : Int) := IntWalk.i64_in _ oM
   have XO : Hid (∀ q, Calls prog 113 #[.pointer (some ⟨D, 0, none⟩), .int .i64 b, .int .i64 j] (wr.drewN q) fun e w' => e = .returned (.int .i64 (a : Nat)) ∧ ∃ q2, w' = (wr.drewN q).drewN q2) :=
    fun q => jk _ (gj.trans ((Below.drewN bV q).mono gj.size))
   have XG : Hid (∀ W', bW wr W' → Calls prog 108 #[.pointer (some ⟨L.d, 0, none⟩), .int .i64 ((a : Int) + (k : Int))] W' fun e w' => ∃ g c, e = .returned (.tuple #[.slice (some ⟨g, 0, none⟩) 64 c, .nilIface]) ∧ w'.ownsRow W'.heap.size 5 1 (.slice (some ⟨g, 0, none⟩) 64 c) 64 (ag .u8 (aB f (a + k))) ∧ bW W' w') :=
    fun W' cB => ph W' k (gj.trans (cB.mono gj.size)) aW
   go_wp2_with (fail)
   go_region_held3 (fun w' => w'.cell? ⟨D, 0, none⟩ = some (.pointer (some ⟨L.d, 0, none⟩))) (first | go_keep | exact DE _ (gj.trans (jI.mono gj.size))) (first
    | (go_at_call 113; refine (jk _ (gj.trans (Below.mono (by repeat (first | exact Below.refl _ _ | refine Below.drew ?_ | refine Below.drewN ?_ _)) gj.size))).mono ?_; rintro e wp ⟨rfl, q1, rfl⟩)
    | (go_at_call 108; refine (XG _ (by repeat (first | exact Below.refl _ _ | refine Below.drew ?_ | refine Below.drewN ?_ _))).mono ?_; rintro e we ⟨g, cc, rfl, Ue, LA⟩; have jI := (Below.drewN (Below.refl wr.heap.size wr) _).trans LA))
   have ig := iD (HI.ab jI)
   have MQ : Hid (we.ownsRow w.heap.size 5 1 (.slice (some ⟨g, 0, none⟩) 64 cc) 64 (ag .u8 (aB f (a + k)))) := mR Ue (Nat.le_trans gj.size (by repeat (first | exact Nat.le_refl _ | rfl)))
   have HLK := iD (yb k aW)
   clear Ue LA jI c0 t0
   go_wp2_with (at_builtin; refine wpList_append_own _ rfl _ _ 41 rfl w.heap.size 32 i23 (.slice none 0 0) 1 24 underlying41 hi uz P7 Ce rfl oM _ _ _ rfl (aD ig.own (bV.alloc cV _)) ⟨we.heap.size, 0, none⟩ 1 1 [.slice (some ⟨g, 0, none⟩) 64 cc] rfl rfl (cell_one_new _ _ _) (by simp [Value.oneCell']) (by unfold maxLen; omega) oM (by have := ig.below.size; simp; omega) ?_)
   intro v' w8 hown8 hgrow8 _
   have PH := iD (ig.push MQ HLK hown8 hgrow8)
   clear hown8 hgrow8
   go_wp2
   go_roundw
   case rel => exact ⟨k + 1, oM, by go_num, _, PH⟩
   case measure => simp [intOf]; omega
  have kg : k = K := oM
  subst kg
  obtain ⟨A', c', rfl, h1, h2, _⟩ := bL HI.own
  have HR := iD (HI.rd X HX)
  have HH := iD (And.intro h1 h2)
  clear h1 h2
  go_wp2
  go_ret2
  exact ⟨A', c', rfl, HH.1, HH.2, HR, gj⟩
end
theorem gF (h : v.length = sp.length) : (ez sp v).length = sp.length := by simp [ez, h]
theorem Ic (hp : sp[k]? = some p) (hx : v[k]? = some x) : (ez sp v)[k]? = some (ey p x) := by
 unfold ez
 rw [List.getElem?_zipWith, hp, hx]
def ix (sp : List eB) (v : List Int) (k : Nat) : List Int := (ez sp v).take k ++ v.drop k
theorem Eg (sp : List eB) (v : List Int) : ix sp v 0 = v := by simp [ix]
theorem If (h : v.length = n) (hs : sp.length = n) : ix sp v n = ez sp v := by
 unfold ix
 rw [List.take_of_length_le (by rw [gF oM]; omega), List.drop_of_length_le oM, List.append_nil]
theorem yK (h : v.length = n) (hs : sp.length = n) (hk : k ≤ n) (hx : v[k]? = some x) : (ix sp v k)[k]? = some x := by
 unfold ix
 rw [List.getElem?_append_right (by rw [List.length_take]; omega), List.length_take, gF oM, List.getElem?_drop, show k + (k - min k sp.length) = k by omega]
 exact hx
theorem Eh (h : v.length = n) (hs : sp.length = n) (hp : sp[k]? = some p) (hx : v[k]? = some x) : (ix sp v k).set k (ey p x) = ix sp v (k + 1) := by
 have hk : k < n := by rw [← h]; exact (List.getElem?_eq_some_iff.1 hx).1
 have hl : ((ez sp v).take k).length = k := by rw [List.length_take, gF oM]; omega
 unfold ix
 rw [List.set_append_right _ _ oM, hl, Nat.sub_self, gO v k x hx, List.set_cons_zero, bA _ k _ (Ic hp hx), List.append_assoc]
 rfl
theorem Hj {l : List Int} (h : l[k]? = some x) : l.set k x = l := by
 apply List.ext_getElem?
 intro i
 rw [List.getElem?_set]
 by_cases e : k = i
 ·subst e
  rw [iP rfl, iP (List.getElem?_eq_some_iff.1 h).1, h]
 rw [iN e]
theorem Ie {As : Option Addr} {cs : Nat} (c3 : w.cell? ⟨D, 3, none⟩ = some (.slice As n cs)) (sp : List eB) (hA : Rd w w.heap.size As (bK sp)) (hn : sp.length = n) (n1 : 1 ≤ n) (n2 : n ≤ 48) (kY : n ≤ cs) (fS : cs ≤ maxLen) 
 (A : Option Addr) (c : Nat) (v : List Int) (hV : Rd w w.heap.size A (aw v)) (hv : v.length = n) :
 Calls prog 103 #[.pointer (some ⟨D, 0, none⟩), .slice A n c] w fun e w' => ∃ v', e = .returned v' ∧ w'.ownsRow w.heap.size 3 1 v' n (aw (ez sp v)) ∧ bW w w' := by
 unfold maxLen at fS
 have ID := World.block_lt_of_cell? w _ c3
 have Dh := iD (kS A n c w.heap.size v w hV cV hv oM)
 have HA := iD hA
 have HN := iD hn
 have HV := iD hv
 have vb : Hid (∀ W', bW w W' → W'.cell? ⟨D, 3, none⟩ = some (.slice As n cs)) := fun W' cB => (cB.cell (p := ⟨D, 3, none⟩) ID).trans c3
 clear hA hn hV hv c3
 go_enter func103, ntmps103
 go_wp2_with (fail)
 refine Dh.mono ?_
 rintro e w1 ⟨v', rfl, ho, hb⟩
 obtain ⟨A', c', rfl, h1, h2, hg⟩ := a9 ho
 obtain ⟨g, rfl, ub, vV⟩ := hg oM
 have iH := iD ho
 have zm := iD hb
 have c3 := vb w1 hb
 unfold maxLen at h2
 clear ho hb
 go_wp2
 go_loopw [15] (fun i wr => ∃ k : Nat, k ≤ n ∧ i = .int .i64 k ∧ wr.ownsRow w.heap.size 3 1 (.slice (some ⟨g, 0, none⟩) n c') n (aw (ix sp v k)) ∧ bW w wr) (fun i _ => n - (intOf i).toNat)
 case atStart => exact ⟨0, Nat.zero_le _, rfl, by rw [Eg]; exact iH, zm⟩
 case round =>
  obtain ⟨k, hk, rfl, hO, hB⟩ := hrel
  have HO := iD hO
  have HB := iD hB
  clear hO hB
  by_cases aW : k < n
  ·obtain ⟨p, hp⟩ := getElem?_of_lt (l := sp) (k := k) (by rw [HN]; exact aW)
   obtain ⟨x, hx⟩ := getElem?_of_lt (l := v) (k := k) (by rw [HV]; exact aW)
   obtain ⟨b, off, rfl, cB, e0, e1, e2⟩ := (cn.of (X := fun _ => False) (HA.below HB cV) HB.size (fun _ h => h.elim)).par hp
   have HP := iD hp
   have MG := iD hx
   obtain ⟨W, hW⟩ := ex (wr.alloc (.cells #[.int .i64 p.lo, .int .i64 p.hi, .int .i64 p.df] 132))
   have gj : Hid (bW wr W) := by rw [← hW]; exact bV.alloc cV _
   have uk : Hid (W.ownsRow w.heap.size 3 1 (.slice (some ⟨g, 0, none⟩) n c') n (aw (ix sp v k))) := aD HO gj
   have d0 : W.cell? ⟨wr.heap.size, 0, none⟩ = some (.int .i64 p.lo) := by rw [← hW, World.cell?_alloc_new]; rfl
   have d1 : W.cell? ⟨wr.heap.size, 1, none⟩ = some (.int .i64 p.hi) := by rw [← hW, World.cell?_alloc_new]; rfl
   have d2 : W.cell? ⟨wr.heap.size, 2, none⟩ = some (.int .i64 p.df) := by rw [← hW, World.cell?_alloc_new]; rfl
   have d3 : W.cell? ⟨g, k, none⟩ = some (.int .i64 x) := by
    rw [uk.cellAt k oM]
    simp [aw, yK HV.out HN.out hk hx]
   have z3 : W.frozen? ⟨g, k, none⟩ = false := uk.frozenAt _
   have ZD : Hid (bW w W) := HB.trans (gj.mono HB.size)
   have eW : Hid ((ix sp v k).set k (ey p x) = ix sp v (k + 1)) := Eh HV HN hp hx
   have Pq : Hid (∀ q, Calls prog 105 #[.int .i64 x, .int .i64 p.lo, .int .i64 p.hi] (W.drewN q) fun e w' => e = .returned (.bool (iy p x)) ∧ w' = W.drewN q) := fun q => Bs x p.lo p.hi (W.drewN q)
   clear hp hx
   by_cases ny : iy p x = true
   ·have rU : Hid (ix sp v (k + 1) = ix sp v k) := by
     rw [Hid, ← eW]
     unfold ey
     rw [iP ny]
     exact Hj (yK HV HN hk MG)
    rw [ny] at Pq
    clear ny
    go_wp2
    go_quiet ((go_at_call 105; with_reducible exact Calls.quiet_of_same (Pq.out _)))
    go_wp2
    go_roundw
    case rel => exact ⟨k + 1, oM, by go_num, by rw [rU]; exact aD uk (Below.drewN bV _), ZD.trans ((Below.drewN bV _).mono ZD.size)⟩
    case measure => simp [intOf]; omega
   have hin' : iy p x = false := by simpa using ny
   have rU : Hid (ix sp v (k + 1) = (ix sp v k).set k p.df) := by
    rw [Hid, ← eW]
    unfold ey
    rw [iN ny]
   rw [hin'] at Pq
   have HOS : Hid (∀ q, ((W.drewN q).setCell ⟨g, k, none⟩ (.int .i64 p.df)).ownsRow w.heap.size 3 1 (.slice (some ⟨g, 0, none⟩) n c') n (aw (ix sp v (k + 1))) ∧ bW w ((W.drewN q).setCell ⟨g, k, none⟩ (.int .i64 p.df))) := fun q => by
    have ho := aD uk (Below.drewN (Below.refl W.heap.size W) q)
    have h5 := (ho.stored k (.int .i64 p.df)).1
    rw [rU]
    refine ⟨?_, (ZD.trans ((Below.drewN bV q).mono ZD.size)).setCell (p := ⟨g, k, none⟩) ub _⟩
    have e : aw ((ix sp v k).set k p.df) = (aw (ix sp v k)).set k (.int .i64 p.df) := by simp [aw]
    rw [e]
    exact h5
   clear ny hin'
   go_wp2
   go_quiet ((go_at_call 105; with_reducible exact Calls.quiet_of_same (Pq.out _)))
   go_wp2
   go_roundw
   case rel => exact ⟨k + 1, oM, by go_num, (HOS _).1, (HOS _).2⟩
   case measure => simp [intOf]; omega
  have kg : k = n := oM
  subst kg
  have HF : Hid (wr.ownsRow w.heap.size 3 1 (.slice (some ⟨g, 0, none⟩) k c') k (aw (ez sp v))) := by rw [Hid, ← If HV HN]; exact HO
  go_wp2
  go_ret
  exact ⟨_, rfl, HF, HB⟩
theorem oE (h : w.ownsRow base e size (.slice A n c) n xs) (hX : ∀ b, (Value.slice A n c).ownBlock = some b → ¬ X b) : cn X w A xs := by
 intro fR
 rcases h.2 with ⟨hv, hn⟩ | ⟨g, cap, cur, hv, hb, hg, qa, fS, kY, Gl⟩
 ·have := h.1
  rw [hn] at this
  simp at this
  exact absurd this fR
 injection hv with e1 e2 e3
 subst e1
 refine ⟨g, 0, rfl, (Array.getElem?_eq_some_iff.1 hg).1, hX g rfl, fun j u hu => ?_⟩
 rw [Nat.zero_add, cell_of_row w g j cur e (0, 0) hg]
 rw [← Gl, List.getElem?_take] at hu
 split at hu
 ·simpa using hu
 cases hu
def gS (S : Sc) (d : Nat) (s : St) : List Value := (S.cells d s).set 5 (.slice none 0 0)
structure jO (w wr : World) (L : Lc) (S : Sc) (s : St) : Prop where
 below : bW w wr
 own : wr.ownsRow w.heap.size 149 17 (.slice (some ⟨S.D, 0, none⟩) 1 1) 1 (gS S L.d s)
 sp : wr.ownsRow w.heap.size 132 3 (.slice S.As s.ax.length S.cs) s.ax.length (bK s.ax)
 sv : wr.ownsRow w.heap.size 3 1 (.slice S.Av s.an.length S.cv) s.an.length (aw s.an)
 p0 : s.bZ = [] ∧ S.Ap = none ∧ S.cp = 0
 v0 : s.values = [] ∧ S.Au = none ∧ S.cu = 0
 t0 : s.aj = []
section
variable {w0 w wr : World} {L : Lc} {S : Sc} {f : Fl} {s : St}
theorem jO.ab (h : jO w wr L S s) (hb : bW wr w') : jO w w' L S s :=
 ⟨h.below.trans (hb.mono h.below.size), aD h.own hb, aD h.sp hb, aD h.sv hb, h.p0, h.v0, h.t0⟩
theorem jO.row (h : jO w wr L S s) (j : Nat) (u : Value) (hj : (gS S L.d s)[j]? = some u) : wr.cell? ⟨S.D, j, none⟩ = some u := by
 have aW : j < 17 := by
  have := (List.getElem?_eq_some_iff.1 hj).1
  simpa [gS, Sc.cells] using this
 rw [h.own.cellAt j oM]
 exact hj
theorem jO.fz (h : jO w wr L S s) (j : Nat) : wr.frozen? ⟨S.D, j, none⟩ = false := h.own.frozenAt _
theorem jO.lt (h : jO w wr L S s) : w.heap.size ≤ S.D ∧ S.D < wr.heap.size := h.own.lt _ rfl
theorem jO.cell (h : jO w wr L S s) (j : Nat) (u : Value) (S' : Sc) (s' : St) (e0 : S'.D = S.D) (hc : gS S' L.d s' = (gS S L.d s).set j u)
 (gT : S'.As = S.As ∧ S'.cs = S.cs ∧ s'.ax = s.ax) (fB : wr.ownsRow w.heap.size 3 1 (.slice S'.Av s'.an.length S'.cv) s'.an.length (aw s'.an)) (p0 : s'.bZ = [] ∧ S'.Ap = none ∧ S'.cp = 0) (v0 : s'.values = [] ∧ S'.Au = none ∧ S'.cu = 0) (t0 : s'.aj = []) :
 jO w (wr.setCell ⟨S.D, j, none⟩ u) L S' s' := by
 have h1 := (h.own.stored j u)
 obtain ⟨a1, a2, a3⟩ := gT
 refine ⟨h.below.setCell (p := ⟨S.D, j, none⟩) h.lt.1 _, ?_, ?_, ?_, p0, v0, t0⟩
 ·rw [hc, e0]
  exact h1.1
 ·rw [a1, a2, a3]
  exact bN h.sp h1.2 (fun g hg e => aL h.own h.sp (by decide) g e hg)
 exact bN fB h1.2 (fun g hg e => aL h.own fB (by decide) g e hg)
theorem jO.done (h : jO w wr L S s) (hf : bB w0 w L f) (Is : cn L.E w L.Ap (ag .u8 f.az)) (hn : s.an.length = n) (ho : w'.ownsRow wr.heap.size 3 1 (.slice (some ⟨g, 0, none⟩) n c) n (aw s.an)) (hb : bW wr w') :
 bM w0 (w'.setCell ⟨S.D, 5, none⟩ (.slice (some ⟨g, 0, none⟩) n c)) L { S with G := g, cg := c } f { s with aj := s.an } ∧ Below w.heap.size w (w'.setCell ⟨S.D, 5, none⟩ (.slice (some ⟨g, 0, none⟩) n c)) := by
 subst hn
 obtain ⟨W, hW⟩ := ex (w'.setCell ⟨S.D, 5, none⟩ (.slice (some ⟨g, 0, none⟩) s.an.length c))
 have h' := h.ab hb
 have hD := h.lt
 have hg : wr.heap.size ≤ g ∧ g < w'.heap.size := ho.lt _ rfl
 have hgD : g ≠ S.D := by have := hg.1; omega
 have Iy : bW w W := by rw [← hW]; exact h'.below.setCell (p := ⟨S.D, 5, none⟩) hD.1 _
 have dV := h'.own.stored 5 (.slice (some ⟨g, 0, none⟩) s.an.length c)
 rw [hW] at dV ⊢
 have lR : W.ownsRow wr.heap.size 3 1 (.slice (some ⟨g, 0, none⟩) s.an.length c) s.an.length (aw s.an) := bN ho dV.2 (fun g' dr e => aL h'.own ho (by decide) g' e dr)
 have VE : W.ownsRow w.heap.size 132 3 (.slice S.As s.ax.length S.cs) s.ax.length (bK s.ax) := bN h'.sp dV.2 (fun g hg e => aL h'.own h'.sp (by decide) g e hg)
 have Il : W.ownsRow w.heap.size 3 1 (.slice S.Av s.an.length S.cv) s.an.length (aw s.an) := bN h'.sv dV.2 (fun g hg e => aL h'.own h'.sv (by decide) g e hg)
 have gU := hf.ab Iy
 have JP := hf.ld
 have Ey := hf.bi.2
 have hl3 := hf.bw.2
 have Un : ∀ b, w.heap.size ≤ b → b ≠ S.D → b < wr.heap.size → ¬ eu L { S with G := g, cg := c } b := by
  intro b h1 h2 h3 hx
  have h4 := hg.1
  rcases hx with (e | e | e | e | e) | e
  ·omega
  ·omega
  ·omega
  ·exact h2 e
  ·have e' : b = g := e
   omega
  have := hf.eb b e
  omega
 have Et : ∀ j u, (({ S with G := g, cg := c } : Sc).cells L.d { s with aj := s.an })[j]? = some u → W.cell? ⟨S.D, j, none⟩ = some u := by
  intro j u hj
  have aW : j < 17 := by
   have := (List.getElem?_eq_some_iff.1 hj).1
   simpa [Sc.cells] using this
  rw [dV.1.cellAt j oM, ← hj]
  unfold gS
  rw [List.set_set]
  rfl
 obtain ⟨_, _, Iw, q1, q2, _⟩ := bL lR
 injection Iw with _ _ qV
 subst qV
 obtain ⟨_, _, Iw, r1, r2, _⟩ := bL VE
 injection Iw with _ _ qV
 subst qV
 obtain ⟨_, _, Iw, s1, s2, _⟩ := bL Il
 injection Iw with _ _ qV
 subst qV
 have R5 : ∀ b, (Value.slice S.As s.ax.length S.cs).ownBlock = some b → w.heap.size ≤ b ∧ b < wr.heap.size ∧ b ≠ S.D := fun b cU =>
  ⟨(h.sp.lt b cU).1, (h.sp.lt b cU).2, fun e => aL h.own h.sp (by decide) b (by rw [e]; rfl) cU⟩
 have R1 : ∀ b, (Value.slice S.Av s.an.length S.cv).ownBlock = some b → w.heap.size ≤ b ∧ b < wr.heap.size ∧ b ≠ S.D := fun b cU =>
  ⟨(h.sv.lt b cU).1, (h.sv.lt b cU).2, fun e => aL h.own h.sv (by decide) b (by rw [e]; rfl) cU⟩
 refine ⟨⟨gU, Nat.le_trans hf.below.size hD.1, by have := dV.1.lt _ rfl; exact this.2, by simp only; omega, by simp only; omega, by simp only; omega, fun e => hgD e.symm, by simp only; have := hg.1; omega, by simp only; have := hg.1; omega, by simp only; have := hg.1; omega, Et, fun j => dV.1.frozenAt j, mR lR (Nat.le_trans hf.below.size h.below.size), ?_, ?_⟩, Iy⟩
 ·refine ⟨oE VE (fun b cU => Un b (R5 b cU).1 (R5 b cU).2.2 (R5 b cU).2.1), r1, r2, oE Il (fun b cU => Un b (R1 b cU).1 (R1 b cU).2.2 (R1 b cU).2.1), s1, s2, ?_, ?_, ?_, ?_, ?_, ?_⟩
  ·simp only [h.p0.1]; exact lU.nil
  ·simp only [h.p0.1]; exact Nat.zero_le _
  ·simp only [h.p0.2.2]; exact Nat.zero_le _
  ·simp only [h.v0.1]; exact cn.nil
  ·simp only [h.v0.1]; exact Nat.zero_le _
  simp only [h.v0.2.2]; exact Nat.zero_le _
 intro hx
 obtain ⟨b, off, e, aW, n1, n2, n3, hc⟩ := hf.pk hx
 refine ⟨b, off, e, Nat.lt_of_lt_of_le aW Iy.size, ?_, fun j u hu => (Iy.cell (p := ⟨b, off + j, none⟩) aW).trans (hc j u hu)⟩
 have h4 := hg.1
 rintro ((e | e | e | e | e) | e')
 ·exact n1 e
 ·exact n2 e
 ·exact n3 e
 ·have e' : b = S.D := e
  omega
 ·have e' : b = g := e
  have := h.below.size
  omega
 obtain ⟨b9, abJ, e9, _, YO, _⟩ := Is hx
 rw [e] at e9
 injection e9 with e9
 injection e9 with e9
 subst e9
 exact YO e'
end
theorem Gc {cs : Array Value} (hc : cs.toList = xs) (hl : xs.length = size) (hb : base ≤ w.heap.size) :
 (w.alloc (.cells cs e)).ownsRow base e size (.slice (some ⟨w.heap.size, 0, none⟩) 1 1) 1 xs := by
 refine ⟨oM, .inr ⟨w.heap.size, 1, cs, rfl, hb, ?_, Nat.le_refl _, by unfold maxLen; omega, ?_, ?_⟩⟩
 ·show (w.heap.push _)[w.heap.size]? = _
  simp
 ·rw [← Array.length_toList, hc]; omega
 rw [hc, List.take_of_length_le oM]
theorem jn {first aa : Int} (h : cJ f first aa sp = 0) : f.aF = false ∧ 2 ≤ aa ∧ aa ≤ 16 ∧ 0 ≤ first ∧ first ≤ (f.aq.length : Int) - aa ∧ 1 ≤ sp.length ∧ sp.length ≤ 48 ∧ sp.any fA = false ∧ cO sp.length ≤ f.pg := by
 unfold cJ at h
 split at h
 ·cases h
 split at h
 ·cases h
 split at h
 ·cases h
 split at h
 ·cases h
 split at h
 ·cases h
 split at h
 ·cases h
 rename_i a b c d e g
 exact ⟨by simpa using a, oM, oM, oM, oM, oM, oM, (Bool.not_eq_true _).mp e, oM⟩
structure Kp (a c : St) : Prop where
 f : c.first = a.first
 b : c.aa = a.aa
 s : c.ax = a.ax
 l : a.an.length = a.ax.length → c.an.length = a.ax.length
theorem Kp.refl (s : St) : Kp s s := ⟨rfl, rfl, rfl, fun h => h⟩
theorem Kp.trans {a b c : St} (h : Kp a b) (k : Kp b c) : Kp a c := ⟨k.f.trans h.f, k.b.trans h.b, k.s.trans h.s, fun e => by rw [← h.s]; exact k.l (by rw [h.s]; exact h.l e)⟩
theorem tS (f : Fl) (s : St) (b j : Nat) : Kp s (cT f s b j) := by
 unfold cT
 simp only
 split
 ·exact .refl s
 rename_i h
 exact ⟨rfl, rfl, rfl, fun _ => gF oM⟩
theorem dP (f : Fl) (b : Nat) (s : St) (n : Nat) : ea f b s (n + 1) = cT f (ea f b s n) b n := by
 unfold ea
 rw [List.range_succ, List.foldl_append]
 rfl
theorem eZ (f : Fl) (n : Nat) (s : St) (m : Nat) : cS f n s (m + 1) = ea f m (cS f n s m) n := by
 unfold cS
 rw [List.range_succ, List.foldl_append]
 rfl
theorem pS (f : Fl) (b : Nat) (s : St) (n : Nat) : Kp s (ea f b s n) := by
 induction n with
 | zero => exact .refl s
 | succ n ih => rw [dP]; exact ih.trans (tS _ _ _ _)
theorem mS (f : Fl) (n : Nat) (s : St) (m : Nat) : Kp s (cS f n s m) := by
 induction m with
 | zero => exact .refl s
 | succ m ih => rw [eZ]; exact ih.trans (pS _ _ _ _)
theorem Ih (fi bl : Nat) (sp : List eB) : (dM fi bl sp).an.length = (dM fi bl sp).ax.length := by simp [dM]
theorem iu {d : Int × List Int × Int} (hd : ff (bT f (aG s f b j) s.k) = d) (h : d.2.2 ≠ 0 ∨ d.2.1.length ≠ s.ax.length ∨ d.1 ≤ s.seq) : cT f s b j = s := by
 unfold cT
 rw [hd]
 exact iP h
theorem j7 {d : Int × List Int × Int} (hd : ff (bT f (aG s f b j) s.k) = d) (h : ¬ (d.2.2 ≠ 0 ∨ d.2.1.length ≠ s.ax.length ∨ d.1 ≤ s.seq)) : cT f s b j = { s with seq := d.1, block := b, av := j, an := ez s.ax d.2.1 } := by
 unfold cT
 rw [hd]
 exact iN h
theorem Ea {i : Nat} {p : List Int} (h : (bT f a n)[i]? = some p) : p = aB f (a + i) := by
 unfold bT at h
 have hi : i < n := by have := (List.getElem?_eq_some_iff.1 h).1; simpa using this
 rw [List.getElem?_map, List.getElem?_range hi] at h
 injection h with h
 exact h.symm
theorem zE (hf : f.ok) : ∀ p ∈ bT f a n, Bytes p := by
 intro p hp
 obtain ⟨i, hi⟩ := List.mem_iff_getElem?.1 hp
 rw [Ea hi]
 exact tR hf _
theorem D9 (f : Fl) (a n : Nat) : (bT f a n).length = n := by simp [bT]
theorem jO.qbs {wr : World} {S : Sc} (h : jO w wr L S s) (q : Int) (b : Nat) (j : Int) :
 jO w (((wr.setCell ⟨S.D, 6, none⟩ (.int .i64 q)).setCell ⟨S.D, 7, none⟩ (.int .i64 b)).setCell ⟨S.D, 8, none⟩ (.int .i64 j)) L S { s with seq := q, block := b, av := j } ∧
 wr.grownBy (((wr.setCell ⟨S.D, 6, none⟩ (.int .i64 q)).setCell ⟨S.D, 7, none⟩ (.int .i64 b)).setCell ⟨S.D, 8, none⟩ (.int .i64 j)) (some S.D) := by
 have a1 := h.cell 6 (.int .i64 q) S { s with seq := q } rfl rfl ⟨rfl, rfl, rfl⟩ h.sv h.p0 h.v0 h.t0
 have a2 := a1.cell 7 (.int .i64 b) S { s with seq := q, block := b } rfl rfl ⟨rfl, rfl, rfl⟩ a1.sv h.p0 h.v0 h.t0
 have a3 := a2.cell 8 (.int .i64 j) S { s with seq := q, block := b, av := j } rfl rfl ⟨rfl, rfl, rfl⟩ a2.sv h.p0 h.v0 h.t0
 exact ⟨a3, ((h.own.stored 6 _).2.trans (a1.own.stored 7 _).2).trans (a2.own.stored 8 _).2⟩
def QN (w0 w : World) (L : Lc) (f : Fl) (s : St) (e : Ending) (w' : World) : Prop :=
 ∃ S, e = .returned (.tuple #[.pointer (some ⟨S.D, 0, none⟩), .nilIface]) ∧ bM w0 w' L S f s ∧ bW w w' ∧ w.heap.size ≤ S.D ∧ w.heap.size ≤ S.G
section
variable {w0 w : World} {L : Lc} {f : Fl}
theorem KQ (h : bB w0 w L f) (fi bl : Nat) (A : Option Addr) (n c : Nat) (sp : List eB) (hA : Rd w w.heap.size A (bK sp)) (hn : sp.length = n) (qa : n ≤ c) (fS : c ≤ maxLen) (dc : ∀ p ∈ sp, p.ok) (he : cJ f fi bl sp = 0) (Is : cn L.E w L.Ap (ag .u8 f.az)) :
 Calls prog 64 #[.pointer (some ⟨L.d, 0, none⟩), .int .i64 fi, .int .i64 bl, .slice A n c] w (QN w0 w L f (aJ f fi bl sp)) := by
 have g1 := ne_nil
 have g2 := fW
 obtain ⟨hd, b2, Zf, f0, f1, n1, KZ, fh, vS⟩ := jn he
 have hw := h.ok.b2
 have HC := iD (I3 h fi bl (by unfold dH; omega) (by unfold dH; omega) A n c sp hA hn qa fS dc)
 rw [he, bG] at HC
 rw [hn] at n1 KZ vS
 unfold maxLen at fS
 have H := iD h
 have HA := iD hA
 have HN := iD hn
 have gV := iD dc
 have HD := iD hd
 have PB := iD Is
 clear Is
 have HKP := iD vS
 have Ds : fi + bl ≤ f.aq.length := oM
 have Yg := iD Ds
 clear h hA hn dc he hd fh vS f1 Ds
 go_enter func64, ntmps64
 go_wp2_with (fail)
 refine HC.mono ?_
 rintro e w1 ⟨rfl, hb⟩
 have zm := iD hb
 have Dh := iD (E7 A n c w1.heap.size sp w1 (HA.below hb cV |>.more hb.size) cV HN oM)
 clear hb
 go_wp2_with (fail)
 refine Dh.mono ?_
 rintro e w2 ⟨v', rfl, ho, hb⟩
 obtain ⟨As, cs, rfl, gC, je, _⟩ := a9 ho
 have fK : Hid (bW w w2) := zm.trans (hb.mono zm.size)
 have AI : Hid (w2.ownsRow w.heap.size 132 3 (.slice As n cs) n (bK sp)) := mR ho zm.size
 unfold maxLen at je
 clear ho hb
 obtain ⟨W, hW⟩ := ex (w2.alloc (.cells #[.pointer (some ⟨L.d, 0, none⟩), .int .i64 fi, .int .i64 bl, .slice As n cs, .slice none 0 0, .slice none 0 0, .int .i64 0, .int .i64 0, .int .i64 (-1), .bool false, .slice none 0 0, .slice none 0 0, .int .i64 0, .int .i64 0, .int .i64 0, .bool false, .bool false] 149))
 have uI : Hid (jO w W L ⟨w2.heap.size, 0, 0, As, cs, none, 0, none, 0, none, 0⟩ { dM fi bl sp with an := [] }) := by
  have hb := (Below.refl w2.heap.size w2).alloc cV (.cells #[.pointer (some ⟨L.d, 0, none⟩), .int .i64 fi, .int .i64 bl, .slice As n cs, .slice none 0 0, .slice none 0 0, .int .i64 0, .int .i64 0, .int .i64 (-1), .bool false, .slice none 0 0, .slice none 0 0, .int .i64 0, .int .i64 0, .int .i64 0, .bool false, .bool false] 149)
  rw [← hW]
  refine ⟨fK.trans (hb.mono fK.size), Gc ?_ rfl fK.size, ?_, World.ownsRow_nil _ _ _ _, ⟨rfl, rfl, rfl⟩, ⟨rfl, rfl, rfl⟩, rfl⟩
  ·simp [gS, Sc.cells, dM, HN.out]
  simp only [dM, HN.out]
  exact aD AI hb
 have hDW : w2.heap.size < W.heap.size := uI.lt.2
 obtain ⟨D, hD⟩ := ex w2.heap.size
 rw [hD] at uI hDW
 obtain ⟨i3, vU, kE, jN, lh⟩ := info_parts mq
 go_wp2
 go_loopw [37] (fun i wr => ∃ k : Nat, k ≤ n ∧ i = .int .i64 k ∧ ∃ Av cv, jO w wr L ⟨D, 0, 0, As, cs, Av, cv, none, 0, none, 0⟩ { dM fi bl sp with an := (sp.map eB.df).take k }) (fun i _ => n - (intOf i).toNat)
 case atStart => exact ⟨0, Nat.zero_le _, rfl, none, 0, uI⟩
 case round =>
  obtain ⟨k, hk, rfl, Av, cv, hO⟩ := hrel
  have HO := iD hO
  clear hO
  by_cases aW : k < n
  ·obtain ⟨p, hp⟩ := getElem?_of_lt (l := sp) (k := k) (by rw [HN]; exact aW)
   obtain ⟨b, off, rfl, cB, e0, e1, e2⟩ := (cn.of (X := fun _ => False) (HA.below HO.below cV) HO.below.size (fun _ h => h.elim)).par hp
   have HP := iD hp
   obtain ⟨V, hV⟩ := ex (wr.alloc (.cells #[.int .i64 p.lo, .int .i64 p.hi, .int .i64 p.df] 132))
   have pG : Hid (bW wr V) := by rw [← hV]; exact bV.alloc cV _
   have Zt := iD (HO.ab pG)
   have d2 : V.cell? ⟨wr.heap.size, 2, none⟩ = some (.int .i64 p.df) := by rw [← hV, World.cell?_alloc_new]; rfl
   have c4 := Zt.row 4 _ rfl
   have VZ : ((sp.map eB.df).take k).length = k := by rw [List.length_take, List.length_map, HN]; omega
   simp only [VZ] at c4
   have xV : Hid (∀ W', bW V W' → W'.ownsRow w.heap.size 3 1 (.slice Av k cv) k (aw ((sp.map eB.df).take k))) := fun W' hb => by
    have := (Zt.ab hb).sv
    simp only [VZ] at this
    exact this
   have HGR : Hid (∀ W' w9 v9, bW V W' → W'.grownBy w9 (Value.slice Av k cv).ownBlock → w9.ownsRow w.heap.size 3 1 v9 (k + 1) (aw ((sp.map eB.df).take k) ++ [.int .i64 p.df]) →
    (∃ A9 c9, v9 = .slice A9 (k + 1) c9 ∧ jO w (w9.setCell ⟨D, 4, none⟩ v9) L ⟨D, 0, 0, As, cs, A9, c9, none, 0, none, 0⟩ { dM fi bl sp with an := (sp.map eB.df).take (k + 1) }) ∧ w9.cell? ⟨D, 4, none⟩ = some (.slice Av k cv) ∧ w9.frozen? ⟨D, 4, none⟩ = false) := by
    intro W' w9 v9 hb hg ho
    have oG := Zt.ab hb
    have fB := oG.sv
    simp only [VZ] at fB
    have bX : w9.ownsRow w.heap.size 149 17 (.slice (some ⟨D, 0, none⟩) 1 1) 1 _ := bN oG.own hg (fun g hg e => aL fB oG.own (by decide) g e hg)
    have gT : w9.ownsRow w.heap.size 132 3 _ _ _ := bN oG.sp hg (fun g hg e => aL fB oG.sp (by decide) g e hg)
    have aaF : bW w w9 := oG.below.grown hg oG.below.size (fun k hk => (fB.lt k hk).1)
    obtain ⟨A9, c9, rfl, _⟩ := a9 ho
    have hp9 : (sp.map eB.df)[k]? = some p.df := by rw [List.getElem?_map, HP]; rfl
    have VY : ((sp.map eB.df).take (k + 1)).length = k + 1 := by rw [List.length_take, List.length_map, HN]; omega
    have hc9 : aw ((sp.map eB.df).take k) ++ [.int .i64 p.df] = aw ((sp.map eB.df).take (k + 1)) := by
     rw [bA _ k _ hp9, aw, aw, List.map_append]
     rfl
    rw [hc9] at ho
    have Se : jO w w9 L ⟨D, 0, 0, As, cs, Av, cv, none, 0, none, 0⟩ { dM fi bl sp with an := (sp.map eB.df).take k } → True := fun _ => trivial
    have dV := bX.stored 4 (.slice A9 (k + 1) c9)
    refine ⟨⟨A9, c9, rfl, aaF.setCell (p := ⟨D, 4, none⟩) (bX.lt _ rfl).1 _, ?_, ?_, ?_, ⟨rfl, rfl, rfl⟩, ⟨rfl, rfl, rfl⟩, rfl⟩, ?_, bX.frozenAt _⟩
    ·have h1 := dV.1
     have e : gS ⟨D, 0, 0, As, cs, A9, c9, none, 0, none, 0⟩ L.d { dM fi bl sp with an := (sp.map eB.df).take (k + 1) } = (gS ⟨D, 0, 0, As, cs, Av, cv, none, 0, none, 0⟩ L.d { dM fi bl sp with an := (sp.map eB.df).take k }).set 4 (.slice A9 (k + 1) c9) := by
      unfold gS Sc.cells
      simp only [VY]
      rfl
     rw [e]
     exact h1
    ·exact bN gT dV.2 (fun g hg e => aL bX gT (by decide) g e hg)
    ·simp only [VY]
     exact bN ho dV.2 (fun g hg e => aL bX ho (by decide) g e hg)
    rw [bX.cellAt 4 oM]
    have := VZ
    simp only [gS, Sc.cells, List.getElem?_set, this]
    rfl
   have aap : D < V.heap.size := World.block_lt_of_cell? V _ c4
   have sR : wr.heap.size < V.heap.size := World.block_lt_of_cell? V _ d2
   have x4 : (V.alloc (.cells #[.int .i64 p.df] 3)).cell? ⟨D, 4, none⟩ = some (.slice Av k cv) := (((Below.refl V.heap.size V).alloc cV _).cell (p := ⟨D, 4, none⟩) aap).trans c4
   have x2 : (V.alloc (.cells #[.int .i64 p.df] 3)).cell? ⟨wr.heap.size, 2, none⟩ = some (.int .i64 p.df) := (((Below.refl V.heap.size V).alloc cV _).cell (p := ⟨wr.heap.size, 2, none⟩) sR).trans d2
   clear VZ hp
   go_wp2
   clear e0 e1 e2
   go_region_law (refine vh rfl (.tmp 45) (.tmp 48) 33 rfl w.heap.size 3 i3 (.int .i64 0) 1 8 underlying33 vU kE jN lh rfl oM (.slice Av k cv) k (aw ((sp.map eB.df).take k)) rfl (xV _ (by first | exact (Below.drew (Below.refl V.heap.size V)).alloc cV _ | exact Below.drew ((Below.refl V.heap.size V).alloc cV _))) (V.heap.size + 1) (some ⟨V.heap.size, 0, none⟩) 1 1 [.int .i64 p.df] rfl (by first | exact Rd.new V.drew _ _ _ rfl | exact (Rd.new V _ _ _ rfl).below fT (by simp)) rfl (by simp [Value.oneCell']) (by unfold maxLen; omega) oM (by have := Zt.below.size; simp; omega) ?_; intro v9 w9 hown9 hgrow9 _; obtain ⟨⟨A9, c9, rfl, Se⟩, c49, z49⟩ := HGR _ _ _ (by first | exact (Below.drew (Below.refl V.heap.size V)).alloc cV _ | exact Below.drew ((Below.refl V.heap.size V).alloc cV _)) hgrow9 hown9)
   all_goals
    have HN9 := iD Se
    clear Se hgrow9 hown9 c49 z49
    go_wp2
    go_roundw
    case rel => exact ⟨k + 1, oM, by go_num, A9, c9, HN9⟩
    case measure => simp [intOf]; omega
  have kg : k = n := oM
  subst kg
  have fp : ({ dM fi bl sp with an := (sp.map eB.df).take k } : St) = dM fi bl sp := by
   rw [List.take_of_length_le (by rw [List.length_map, HN]; exact Nat.le_refl _)]
   rfl
  rw [fp] at HO
  obtain ⟨T, hT⟩ := ex (f.pg / cO k)
  have HT := iD hT
  have Wz : T ≤ 16 := by rw [← hT]; exact Nat.le_trans (Nat.div_le_self _ _) H.ok.p2
  clear fp hT
  go_wp2
  go_loopw [54] (fun i wr => ∃ b : Nat, b ≤ bl ∧ i = .int .i64 b ∧ ∃ S, S.D = D ∧ jO w wr L S (cS f T (dM fi bl sp) b)) (fun i _ => bl - (intOf i).toNat)
  case atStart => exact ⟨0, Nat.zero_le _, rfl, _, rfl, HO⟩
  case round =>
   obtain ⟨b, hb, rfl, S, hSD, hO1⟩ := hrel
   subst hSD
   have iH := iD hO1
   clear hO1
   by_cases hltb : b < bl
   ·have J6 := iD (mS f T (dM fi bl sp) b)
    obtain ⟨s1, gC⟩ := ex (cS f T (dM fi bl sp) b)
    have lW := iD gC
    rw [gC] at iH J6
    have e0 := iH.row 0 _ rfl
    have e3 := iH.row 3 _ rfl
    have gT : s1.ax.length = k := by rw [J6.s]; exact HN
    rw [gT] at e3
    have nh := iD (FV (H.ab iH.below) e0 e3 n1 KZ)
    rw [HT] at nh
    clear gC e0 e3 gT
    go_wp2_with (fail)
    refine nh.mono ?_
    rintro e w4 ⟨rfl, q4, rfl⟩
    have Q7 := iD (iH.ab (Below.drewN bV q4))
    generalize wr.drewN q4 = w4 at *
    go_wp2
    go_loopw [59] (fun i wx => ∃ j : Nat, j ≤ T ∧ i = .int .i64 j ∧ ∃ S2 : Sc, S2.D = S.D ∧ jO w wx L S2 (ea f b s1 j)) (fun i _ => T - (intOf i).toNat)
    case atStart => exact ⟨0, Nat.zero_le _, rfl, S, rfl, Q7⟩
    case round =>
     obtain ⟨j, hj, rfl, S2, SG, QC⟩ := hrel
     have hSD2' := SG
     have mA := iD QC
     have Px := iD SG
     clear QC SG
     by_cases hltj : j < T
     ·obtain ⟨s2, je⟩ := ex (ea f b s1 j)
      have fE : Hid (Kp (dM fi bl sp) s2) := by rw [← je]; exact J6.trans (pS _ _ _ _)
      have Pu : Hid (ea f b s1 (j + 1) = cT f s2 b j) := by rw [Hid, dP, je]
      rw [je] at mA
      have e0 := mA.row 0 _ rfl
      have e1 := mA.row 1 _ rfl
      have e3 := mA.row 3 _ rfl
      have e6 := mA.row 6 _ rfl
      have gT : s2.ax = sp := fE.s
      have lX : s2.first = fi := fE.f
      rw [gT, HN] at e3
      rw [lX] at e1
      have qz : (fi + b) * f.pg + f.pg ≤ f.aq.length * f.pg := by
       have h1 : (fi + b + 1) * f.pg ≤ f.aq.length * f.pg := Nat.mul_le_mul_right _ (by have := Yg.out; omega)
       rw [Nat.add_mul (fi + b), Nat.one_mul] at h1
       exact h1
      have Nj : j * cO k + cO k ≤ f.pg := by
       have h1 : (j + 1) * cO k ≤ T * cO k := Nat.mul_le_mul_right _ hltj
       have h2 : T * cO k ≤ f.pg := by rw [← HT]; exact Nat.div_mul_le_self _ _
       rw [Nat.add_mul, Nat.one_mul] at h1
       omega
      obtain ⟨a, ha⟩ := ex ((fi + b) * f.pg + j * cO k)
      have gU := H.ab mA.below
      have ph := iD (Hg gU HD.out e0 e1 e3 n1 KZ (by have := Yg.out; omega) b j oM oM a ha oM (fun _ => False) (fun _ h => h.elim))
      have QZ : Hid (aG s2 f b j = a ∧ s2.k = cO k) := by
       have hk : s2.k = cO k := by unfold St.k; rw [gT, HN]
       refine ⟨?_, hk⟩
       unfold aG
       rw [hk, lX, ha]
      rw [hSD2'] at ph
      clear je e0 e1 e3 e6 qz Nj gU ha gT lX
      go_wp2_with (fail)
      refine ph.mono ?_
      rintro e w5 ⟨A5, c5, rfl, h51, h52, tX, gD⟩
      have MR := iD (mA.ab gD)
      have jG := jL KZ
      have Nv := iD (EY A5 (cO k) c5 (bT f a (cO k)) w5 tX (D9 _ _ _) h51 h52 (zE H.ok))
      obtain ⟨d, hd⟩ := ex (ff (bT f a (cO k)))
      have qg : ff (bT f (aG s2 f b j) s2.k) = d := by rw [QZ.1, QZ.2]; exact hd
      have PC := iD (iu qg)
      have Jl := iD (j7 qg)
      have HVR : Hid (∀ x ∈ d.2.1, dH x) := by rw [← hd]; exact td _
      rw [hd] at Nv
      obtain ⟨dq, dv, de⟩ := d
      unfold PU at Nv
      simp only at Nv PC Jl HVR
      generalize cO k = K at *
      clear hd qg tX gD h51 h52
      have zT : s2.ax = sp := fE.s
      by_cases Lx : de = 0
      ·subst Lx
       rw [bG] at Nv
       go_wp2_with (fail)
       refine Nv.mono ?_
       rintro e w6 ⟨A6, c6, rfl, oH, fx⟩
       have DB := iD (MR.ab fx)
       have Ps := iD oH
       obtain ⟨_, _, Iw, iE, jB, yN⟩ := bL oH
       injection Iw with hcv1 _ hcv3
       subst hcv1
       subst hcv3
       have Fv := iD yN
       unfold maxLen at jB
       have e6 := DB.row 6 _ rfl
       rw [hSD2'] at e6
       clear oH fx
       obtain ⟨m, hm⟩ := ex dv.length
       have HM := iD hm
       rw [hm] at Ps iE ⊢
       by_cases hlen : m = k
       ·have dl : ((m : Int) != (k : Int)) = false := by simp; omega
        by_cases hq : dq ≤ s2.seq
        ·have dqq : decide (dq ≤ s2.seq) = true := by simpa using hq
         have Fz := iD (PC (.inr (.inr hq)))
         clear hm hlen hq zT
         go_wp2
         go_roundw
         case rel => exact ⟨j + 1, oM, by go_num, S2, Px, by rw [Pu, Fz]; exact DB⟩
         case measure => simp [intOf]; omega
        have dqq : decide (dq ≤ s2.seq) = false := by simpa using hq
        have HYE := iD (Jl (by
         rintro (h | h | h)
         ·exact h rfl
         ·rw [hm, zT, HN] at h; exact h hlen
         exact hq h))
        have e7 := DB.row 7 _ rfl
        have e8 := DB.row 8 _ rfl
        have z6 := DB.fz 6
        have z7 := DB.fz 7
        have z8 := DB.fz 8
        obtain ⟨W7, hW7⟩ := ex (((w6.setCell ⟨S2.D, 6, none⟩ (.int .i64 dq)).setCell ⟨S2.D, 7, none⟩ (.int .i64 b)).setCell ⟨S2.D, 8, none⟩ (.int .i64 j))
        have Jq : Hid (jO w W7 L S2 { s2 with seq := dq, block := b, av := j } ∧ w6.grownBy W7 (some S2.D)) := by
         have := DB.qbs dq b (j : Int)
         rw [hW7] at this
         exact this
        have Vw : W7.ownsRow w5.heap.size 3 1 (.slice A6 m c6) m (aw dv) := bN Ps Jq.2 (fun g hg e => aL DB.own Ps (by decide) g (by
         have : some S2.D = some g := e
         exact this) hg)
        have f3 := Jq.1.row 3 _ rfl
        rw [show ({ s2 with seq := dq, block := b, av := (j : Int) } : St).ax = s2.ax from rfl, zT, HN] at f3
        have R4 := Jq.1.sp
        rw [show ({ s2 with seq := dq, block := b, av := (j : Int) } : St).ax = s2.ax from rfl, zT, HN] at R4
        obtain ⟨_, _, kY, VK, VJ, VI⟩ := bL R4
        injection kY with Wi _ hcs3
        subst Wi
        subst hcs3
        subst hlen
        have Zw := iD (Ie f3 sp VI HN n1 KZ VK VJ A6 c6 dv (ky Vw) HM)
        rw [hSD2'] at Zw hW7
        rw [hSD2'] at e7 e8 z6 z7 z8
        clear Vw f3 R4 VK VJ VI hm hq
        go_wp2_with (fail)
        refine Zw.mono ?_
        rintro e w8 ⟨v8, rfl, iF, kH⟩
        have xY := iD (Jq.1.ab kH)
        obtain ⟨A8, c8, rfl, _⟩ := a9 iF
        have Of : w8.ownsRow w.heap.size 3 1 (.slice A8 m c8) m (aw (ez sp dv)) := mR iF Jq.1.below.size
        have gZ : (ez sp dv).length = m := by rw [gF (by rw [HM, HN])]; exact HN
        have xc : Hid (jO w (w8.setCell ⟨S2.D, 4, none⟩ (.slice A8 m c8)) L { S2 with Av := A8, cv := c8 } { s2 with seq := dq, block := b, av := j, an := ez sp dv }) := by
         refine xY.cell 4 (.slice A8 m c8) { S2 with Av := A8, cv := c8 } { s2 with seq := dq, block := b, av := j, an := ez sp dv } rfl ?_ ⟨rfl, rfl, rfl⟩ (by simp only [gZ]; exact Of) xY.p0 xY.v0 xY.t0
         unfold gS Sc.cells
         simp only [gZ]
         rfl
        have f4 := xY.row 4 _ rfl
        have zz4 := xY.fz 4
        rw [hSD2'] at f4 zz4
        have aaY : Hid (ea f b s1 (j + 1) = { s2 with seq := dq, block := b, av := j, an := ez sp dv }) := by
         rw [Hid, Pu, HYE]
         simp only [zT]
        rw [hSD2'] at xc
        clear iF kH Of gZ zT
        go_wp2
        go_roundw
        case rel => exact ⟨j + 1, oM, by go_num, { S2 with D := S.D, Av := A8, cv := c8 }, rfl, by rw [aaY]; exact xc⟩
        case measure => simp [intOf]; omega
       have dl : ((m : Int) != (k : Int)) = true := by simp; omega
       have Fz := iD (PC (.inr (.inl (by rw [hm, zT, HN]; exact hlen))))
       clear hm hlen zT
       go_wp2
       go_roundw
       case rel => exact ⟨j + 1, oM, by go_num, S2, Px, by rw [Pu, Fz]; exact DB⟩
       case measure => simp [intOf]; omega
      have UU := iD (dJ Lx)
      rw [UU] at Nv
      have Fz := iD (PC (.inl Lx))
      clear Lx zT
      go_wp2_with (fail)
      refine Nv.mono ?_
      rintro e w6 ⟨A6, c6, rfl, oH, fx⟩
      have DB := iD (MR.ab fx)
      clear oH fx
      go_wp2
      go_roundw
      case rel => exact ⟨j + 1, oM, by go_num, S2, Px, by rw [Pu, Fz]; exact DB⟩
      case measure => simp [intOf]; omega
     have hjT : j = T := oM
     subst hjT
     have Zv : Hid (cS f j (dM fi bl sp) (b + 1) = ea f b s1 j) := by rw [Hid, eZ, lW]
     go_wp2
     go_roundw
     case rel => exact ⟨b + 1, oM, by go_num, S2, Px, by rw [Zv]; exact mA⟩
     case measure => simp [intOf]; omega
   have nA : b = bl := oM
   subst nA
   have J6 := iD (mS f T (dM fi b sp) b)
   have HF : Hid (aJ f fi b sp = { cS f T (dM fi b sp) b with aj := (cS f T (dM fi b sp) b).an }) := by
    unfold aJ
    rw [Hid, HN, HT]
   obtain ⟨s1, gC⟩ := ex (cS f T (dM fi b sp) b)
   rw [gC] at iH J6 HF
   have lQ : s1.an.length = k := by
    rw [J6.l (Ih _ _ _)]
    exact HN
   have aa9 := iD lQ
   have fB := iH.sv
   have e4 := iH.row 4 _ rfl
   rw [lQ] at fB e4
   have abu := iD (kS S.Av k S.cv wr.heap.size s1.an wr (ky fB) cV lQ oM)
   clear gC lQ fB
   go_wp2_with (fail)
   refine abu.mono ?_
   rintro e w9 ⟨v9, rfl, kd, lS⟩
   obtain ⟨A9, c9, rfl, _, _, hg9⟩ := a9 kd
   obtain ⟨g9, rfl, V6, aat⟩ := hg9 oM
   have DD := iD (iH.done H PB aa9 kd lS)
   have xc := iD (iH.ab lS)
   have f5 := xc.row 5 _ rfl
   have z5 := xc.fz 5
   have hDl := iH.lt.1
   have JS := iH.below.size
   clear kd lS e4
   go_wp2
   go_ret2
   exact ⟨{ S with G := g9, cg := c9 }, rfl, by rw [HF]; exact DD.1, DD.2, hDl, by simp only; omega⟩
end
theorem Ee (hs : ∀ p ∈ sp, p.ok) (hv : ∀ x ∈ v, dH x) : ∀ x ∈ ez sp v, dH x := by
 intro x hx
 unfold ez at hx
 rw [List.mem_iff_getElem?] at hx
 obtain ⟨i, hi⟩ := hx
 rw [List.getElem?_zipWith] at hi
 cases hp : sp[i]? with
 | none => rw [hp] at hi; simp at hi
 | some p =>
  cases hx : v[i]? with
  | none => rw [hp, hx] at hi; simp at hi
  | some y =>
   rw [hp, hx] at hi
   simp at hi
   subst hi
   unfold ey
   split
   ·exact hv y (List.mem_of_getElem? hx)
   exact (hs p (List.mem_of_getElem? hp)).d
structure Ji (f : Fl) (fi bl : Nat) (sp : List eB) (s : St) : Prop where
 kp : Kp (dM fi bl sp) s
 sv : s.an.length = sp.length
 si : ∀ x ∈ s.an, dH x
 q1 : 0 ≤ s.seq
 q2 : s.seq ≤ 1099511627776
 b : s.block < bl
 s1 : -1 ≤ s.av
 s2 : s.av < ((f.pg / cO sp.length : Nat) : Int)
 re : s.af = false ∧ s.bZ = [] ∧ s.values = [] ∧ s.bH = 0 ∧ s.bg = 0 ∧ s.done = 0 ∧ s.erase = false ∧ s.bt = false
theorem Ji.init (hs : ∀ p ∈ sp, p.ok) (hb : 1 ≤ bl) : Ji f fi bl sp (dM fi bl sp) :=
 ⟨.refl _, by simp [dM], (by
  intro x hx
  simp only [dM, List.mem_map] at hx
  obtain ⟨p, hp, rfl⟩ := hx
  exact (hs p hp).d), by simp [dM], by simp [dM], by simp only [dM]; omega, by simp [dM], by simp only [dM]; generalize f.pg / cO sp.length = T; omega, ⟨rfl, rfl, rfl, rfl, rfl, rfl, rfl, rfl⟩⟩
theorem Ji.step (hs : ∀ p ∈ sp, p.ok) (h : Ji f fi bl sp s) (hb : b < bl) (hj : j < f.pg / cO sp.length) : Ji f fi bl sp (cT f s b j) := by
 have hk := h.kp.trans (tS f s b j)
 obtain ⟨d, hd⟩ := ex (ff (bT f (aG s f b j) s.k))
 have gT : s.ax = sp := h.kp.s
 by_cases hc : d.2.2 ≠ 0 ∨ d.2.1.length ≠ s.ax.length ∨ d.1 ≤ s.seq
 ·rw [iu hd hc]
  exact h
 rw [j7 hd hc] at hk ⊢
 have h0 : d.2.2 = 0 := oM
 have hl : d.2.1.length = s.ax.length := oM
 have dc := GF (ps := bT f (aG s f b j) s.k) (by rw [hd]; exact h0)
 rw [hd] at dc
 obtain ⟨e1, e2, e3, e4⟩ := ks dc.2.1
 have hv : ∀ x ∈ d.2.1, dH x := by rw [← hd]; exact td _
 exact ⟨hk, by simp only; rw [gF (by rw [hl]), gT], Ee (by rw [gT]; exact hs) hv, by simp only; omega, by simp only; omega, hb, by simp only; omega, by simp only; exact Int.ofNat_lt.2 hj, h.re⟩
theorem Ji.row (hs : ∀ p ∈ sp, p.ok) (h : Ji f fi bl sp s) (hb : b < bl) (hn : n ≤ f.pg / cO sp.length) : Ji f fi bl sp (ea f b s n) := by
 induction n with
 | zero => exact h
 | succ n ih => rw [dP]; exact (ih oM).step hs hb oM
theorem Ji.all (hs : ∀ p ∈ sp, p.ok) (h : Ji f fi bl sp s) {m : Nat} (hm : m ≤ bl) : Ji f fi bl sp (cS f (f.pg / cO sp.length) s m) := by
 induction m with
 | zero => exact h
 | succ m ih => rw [eZ]; exact (ih oM).row hs oM cV
theorem ko (hs : ∀ p ∈ sp, p.ok) (he : cJ f fi bl sp = 0) :
 Ji f fi bl sp (cS f (f.pg / cO sp.length) (dM fi bl sp) bl) := by
 obtain ⟨hd, b2, Zf, f0, f1, n1, KZ, fh, vS⟩ := jn he
 exact (Ji.init hs oM).all hs cV
theorem kz (hs : ∀ p ∈ sp, p.ok) (he : cJ f fi bl sp = 0) : bD f (aJ f fi bl sp) := by
 obtain ⟨hd, b2, Zf, f0, f1, n1, KZ, fh, vS⟩ := jn he
 have h := ko hs he
 unfold aJ
 simp only
 generalize cS f (f.pg / cO sp.length) (dM fi bl sp) bl = s at *
 have gT : s.ax = sp := h.kp.s
 have cB : s.aa = bl := h.kp.b
 have lX : s.first = fi := h.kp.f
 obtain ⟨r1, r2, r3, r4, r5, r6, r7, r8⟩ := h.re
 have lQ : 1 ≤ f.pg / cO sp.length := (Nat.le_div_iff_mul_le (jZ n1)).2 oM
 exact ⟨by simp only [gT]; exact n1, by simp only [gT]; exact KZ, by simp only [gT]; exact hs, by simp only [cB]; omega, by simp only [cB]; omega, by simp only [cB, lX]; omega, by unfold St.k; simp only [gT]; exact vS,
  by simp only [gT]; exact h.sv, by simp only [gT]; exact h.sv, .inr r8, h.si, h.si, by simp only [r3]; simp, h.q1, h.q2, by simp only [cB]; exact h.b, h.s1, by unfold bm St.k; simp only [gT]; exact h.s2,
  by simp only [r8]; simp, by simp only [r2]; simp, by simp only [r4, cB]; omega, by unfold bm St.k; simp only [r5, gT]; exact lQ, by simp only [r8]; simp, by simp only [r6]; exact Nat.zero_le _, by simp only [r8]; simp⟩
theorem KD {off : Nat} (h : Rd w B (some ⟨b, off, none⟩) xs) (hB : B ≤ w.heap.size) (hX : ¬ X b) : cn X w (some ⟨b, off, none⟩) xs := fun hx => by
 obtain ⟨b', sI, e, aW, hc⟩ := h hx
 obtain ⟨rfl, rfl⟩ : b = b' ∧ off = sI := by simpa using e
 exact ⟨b, off, rfl, Nat.lt_of_lt_of_le aW hB, hX, hc⟩
theorem yE {w0 : World} (h : bB w0 w L f) (fiI blI : Int) (fi bl : Nat) (lX : fiI = fi) (cB : blI = bl) (A : Option Addr) (n c : Nat) (sp : List eB) (hA : Rd w w.heap.size A (bK sp)) (hn : sp.length = n) (qa : n ≤ c) (fS : c ≤ maxLen) (dc : ∀ p ∈ sp, p.ok) (he : cJ f fi bl sp = 0) (Is : cn L.E w L.Ap (ag .u8 f.az)) :
 Calls prog 64 #[.pointer (some ⟨L.d, 0, none⟩), .int .i64 fiI, .int .i64 blI, .slice A n c] w (QN w0 w L f (aJ f fi bl sp)) := by
 subst lX cB
 exact KQ h fi bl A n c sp hA hn qa fS dc he Is
structure Ev where
 k : Int
 a : Int
 b : Int
 P : Option Addr
 q : Nat
 r : Nat
 p : List Int
def Ev.cells (x : Ev) : List Value := [.int .u8 x.k, .int .i64 x.a, .int .i64 x.b, .slice x.P x.q x.r]
theorem Ev.m8 (x : Ev) : x.cells.length = 4 := rfl
def tc (l : List Ev) : List Value := l.flatMap Ev.cells
structure Ev.ok (x : Ev) (w : World) (B0 : Nat) : Prop where
 rp : Rd w B0 x.P (ag .u8 x.p)
 lp : x.p.length = x.q
 mp : x.q ≤ x.r
 cp : x.r ≤ maxLen
 bp : Bytes x.p
 sq : x.q ≤ 140737488351232
 k0 : 0 ≤ x.k
 k1 : x.k < 256
 a0 : dH x.a
 b0 : dH x.b
theorem Ev.ok.below {x : Ev} {B0 B1 : Nat} (h : x.ok w B0) (hb : Below B1 w w') (hB : B0 ≤ B1) : x.ok w' B0 :=
 ⟨h.rp.below hb hB, h.lp, h.mp, h.cp, h.bp, h.sq, h.k0, h.k1, h.a0, h.b0⟩
theorem Rd.ev {l : List Ev} (h : Rd w B A (tc l)) {x : Ev} (hx : l[k]? = some x) :
 ∃ b off, A = some ⟨b, off, none⟩ ∧ b < B ∧ w.cell? ⟨b, off + k * 4, none⟩ = some (.int .u8 x.k) ∧ w.cell? ⟨b, off + k * 4 + 1, none⟩ = some (.int .i64 x.a) ∧ w.cell? ⟨b, off + k * 4 + 2, none⟩ = some (.int .i64 x.b) ∧
  w.cell? ⟨b, off + k * 4 + 3, none⟩ = some (.slice x.P x.q x.r) := by
 have key : ∀ j u, x.cells[j]? = some u → (tc l)[k * 4 + j]? = some u := fun j u hu => flat_get Ev.cells 4 Ev.m8 l k j x u hx hu
 have fR : tc l ≠ [] := by
  intro e
  have := key 0 _ rfl
  rw [e] at this
  simp at this
 obtain ⟨b, off, e, aW, hc⟩ := h fR
 exact ⟨b, off, e, aW, hc _ _ (key 0 _ rfl), hc _ _ (key 1 _ rfl), hc _ _ (key 2 _ rfl), hc _ _ (key 3 _ rfl)⟩
def mI : List Ev → Nat
 | [] => 0
 | x :: l => 10 + min x.q 10000 + mI l
theorem Bw (a b : List Ev) : mI (a ++ b) = mI a + mI b := by
 induction a with
 | nil => simp [mI]
 | cons x a ih => simp only [List.cons_append, mI, ih]; omega
theorem FO (l : List Ev) : mI l ≤ 10010 * l.length := by
 induction l with
 | nil => simp [mI]
 | cons x a ih => simp only [mI, List.length_cons]; omega
def vO (l : List Ev) : Bool := decide (200 < l.length ∨ 20000 < mI l)
theorem vC {fn : Func} {p : Tmp} {ty : TypeId} (h : fn.results = #[.cell p ty]) (tmps : Array Value) (P : Program) (w : World) :
 (results fn tmps).run P w = ((asAddr (tmps.getD p undef)).run P w).andThen fun a w₁ => (loadVar ty a).run P w₁ := by
 simp only [results, h]
 simp [Sem.run_bind, Result.andThen]
end Go.Proofs.YtjdknddnanopaaaGreat
