/-
  Part 20 of the proof.
-/
import Derived.Test.YtjdknddnanopaaaGreatQ15
namespace Go.Proofs.YtjdknddnanopaaaGreat
open Go.RowKit Tryz
set_option maxRecDepth 100000
set_option maxHeartbeats 16000000
set_option linter.all false
variable {w : World} {P : Program} {ops : Array Oper} {o : Oper} {a : Act} {Y : Nat → Prop}
theorem vj {K : Act → World → Prop} {Q : Exit → Act → World → Prop} {E : Prop} 
 (nz : o.guard = none) (s xo : Operand) (t : TypeId) (ho : o.op = .call { callee := .builtin .append, args := #[s, xo], argTypes := #[t, t] })
 (B : Nat) (e : TypeId) (i : TypeInfo) (z : Value) (ht : P.underlying t = some (.slice e)) (hi : P.info? e = some i) (hz : i.zero = some z)
 (gJ : i.size = 1) (uc : i.bytes = 8) (Cd : z.cells.size = 1)
 (v : Value) (q : List Int) (hs : a.eval s = v) (hq : QS w e B v q) (x : Int) (ad : Addr) (c : Nat) (T7 : a.eval xo = .slice (some ad) 1 c) (hx : w.cell? ad = some (.int .i64 x))
 (hl : q.length + 1 ≤ 1000000000) (hB : B ≤ w.heap.size)
 (h : ∀ v' w', QS w' e B v' (q ++ [x]) → w.grownBy w' v.ownBlock → (v'.ownBlock = v.ownBlock ∨ v'.ownBlock = some w.heap.size) → K (a.put o.dst v') w') :
 if Region.wanted o (yielded ops a.tmps) = true then Oper.wp P o a w K Q else E := by
 have hw : Region.wanted o (yielded ops a.tmps) = true := by simp [Region.wanted, nz]
 rw [iP hw]
 obtain ⟨v', w', nP, h2, h3, h4⟩ := py (P := P) w B t o.type e i z ht hi hz gJ uc Cd v q hq x ad c hx hl hB
 unfold Oper.wp execOp
 simp only [ho, resolve, invoke, builtin, Sem.run_bind, Sem.run_pure, Result.andThen_ok, List.map_toArray, List.map_cons, List.map_nil, hs, T7, nP]
 exact h v' w' h2 h3 h4
theorem DR {K : Act → World → Prop} {Q : Exit → Act → World → Prop} {E : Prop} {n : Nat} {al : List Value} (hg : o.guard = none) 
 (xl : List Operand) (JZ : Array TypeId) (ho : o.op = .call { callee := .value (.func n), args := xl.toArray, argTypes := JZ }) (hargs : xl.map a.eval = al) (vW : ∀ (args : Array Value) (w : World), (callFunc n args).run P w = .ok (.enter n args) w)
 (h : Calls P n al.toArray w fun e w' => ∃ v, e = .returned v ∧ K (a.put o.dst v) w') : if Region.wanted o (yielded ops a.tmps) = true then Oper.wp P o a w K Q else E := by
 have hw : Region.wanted o (yielded ops a.tmps) = true := by simp [Region.wanted, hg]
 rw [iP hw]
 have he : (execOp a.eval o).run P w = .ok (.enter n al.toArray) w := by
  obtain ⟨dst, op, ty, pos, after, guard⟩ := o
  simp only at ho
  subst ho
  rw [execOp_call_go, show (#[] ++ xl.toArray.map a.eval ++ #[] : Array Value) = al.toArray by rw [← hargs]; simp]
  exact vW _ _
 unfold Oper.wp
 rw [he, Oper.upon_enter]
 refine h.mono ?_
 rintro e w' ⟨v, rfl, h1⟩
 exact h1
theorem LY (args : Array Value) (w : World) : (callFunc 86 args).run prog w = .ok (.enter 86 args) w := by
 go_simp
section
variable {w0 w w1 w' : World} {L L' : Lc} {S S' : Sc} {K K' : Kc} {f f' : Fl} {b b' : Bk} {s : St}
theorem bM.G9 (h : bM w0 w L S f s) (hY : ∀ b, Y b → L.E b ∧ ¬ bQ L S b) (ho : ah Y w w') (hb : bW w0 w') (E : Nat → Prop) (hE : ∀ b, E b → b < w'.heap.size) (hN : ∀ b, b < w.heap.size → E b → L.E b) (hL : ∀ b, L.E b → E b) : bM w0 w' { L with E := E } S f s := by
 have h' := h.aside hY ho hb
 have hX : ∀ b, b < w.heap.size → eu { L with E := E } S b → eu L S b := fun b aW hy => by
  rcases hy with h5 | he
  ·exact .inl h5
  exact .inr (hN b aW he)
 have hs : ∀ b, Y b → eu { L with E := E } S b := fun b hy => .inr (hL b (hY b hy).1)
 have sl : Jg (eu { L with E := E } S) w' S s := (h.sl.dQ hX).ao ho hs
 have pk : cn (eu { L with E := E } S) w' L.Ap (ag .u8 f.az) := (h.pk.dQ hX).ao ho hs
 exact ⟨h'.fl.tag E hE, h'.dd, h'.dl, h'.d1, h'.d2, h'.d3, h'.dg, h'.g1, h'.g2, h'.g3, h'.row, h'.fz, h'.sg, sl, pk⟩
theorem oz.KS {X : Nat → Prop} {w' : World} {K : Kc} {o : Option (List Int)} (h : oz X w K o) (k : ah Y w w') (hs : ∀ b, Y b → X b) : oz X w' K o := by
 cases o with
 | none => exact h
 | some d => exact ⟨h.1.ao k hs, h.2⟩
theorem bo.append (h0 : bo w0 w L S K f b) {W w8 : World} (hW : bW w W) {x : Int} {v' : Value} (hq : QS w8 3 w0.heap.size v' (b.erase ++ [x])) (hg : W.grownBy w8 K.v.ownBlock) (hv : v'.ownBlock = K.v.ownBlock ∨ v'.ownBlock = some W.heap.size) :
 nt w0 w L S K f { b with erase := b.erase ++ [x] } (w8.setCell ⟨K.D, 11, none⟩ v') := by
 have h := h0.ab hW
 have iF : ah (fun g => K.v.ownBlock = some g) W w8 := ⟨hg.size, fun k hk hn => hg.block k hk (fun e => hn e.symm)⟩
 have kH : bW w0 w8 := h.st.fl.below.grown hg h.st.fl.below.size (fun k hk => (h.er.lt hk).1)
 have YJ : bM w0 w8 { L with E := fun g => L.E g ∨ v'.ownBlock = some g } S f b.st := by
  refine h.st.G9 (fun g hg => ⟨(h.en g hg).2.2, (h.en g hg).1⟩) iF kH _ (fun g dr => ?_) (fun g aW dr => ?_) (fun g dr => .inl dr)
  ·rcases dr with dr | dr
   ·exact Nat.lt_of_lt_of_le (h.st.fl.eb g dr) iF.size
   exact (hq.lt dr).2
  rcases dr with dr | dr
  ·exact dr
  rcases hv with hv | hv
  ·rw [hv] at dr
   exact (h.en g dr).2.2
  rw [hv] at dr
  injection dr with e
  omega
 have hnK : ¬ K.v.ownBlock = some K.D := fun e => (h.en _ e).2.1 rfl
 have hvn : ∀ g, v'.ownBlock = some g → ¬ bQ L S g ∧ g ≠ K.D := fun g dr => by
  rcases hv with hv | hv
  ·rw [hv] at dr
   exact ⟨(h.en g dr).1, (h.en g dr).2.1⟩
  rw [hv] at dr
  injection dr with e
  subst e
  refine ⟨fun h5 => ?_, fun e => ?_⟩
  ·have := h.st.dY _ (.inl h5)
   omega
  have := h.lt
  omega
 have kd : ah (fun g => g = K.D) w8 (w8.setCell ⟨K.D, 11, none⟩ v') := .set w8 ⟨K.D, 11, none⟩ v' rfl
 have lS : bW w0 (w8.setCell ⟨K.D, 11, none⟩ v') := kH.setCell (p := ⟨K.D, 11, none⟩) h.dd _
 have Vg : ∀ j u, (K.cells L.d S.D b)[j]? = some u → w8.cell? ⟨K.D, j, none⟩ = some u := fun j u hu => (cell_of_block (iF.block _ h.lt hnK)).trans (h.row j u hu)
 refine ⟨{ L with E := fun g => L.E g ∨ v'.ownBlock = some g }, S, { K with v := v' }, ?_, ⟨YJ.aside (Y := fun g => g = K.D) (fun g hg => by subst hg; exact ⟨.inl h.ed, h.nd⟩) kd lS, h.dd, h.nd, .inl h.ed, ?_, ?_, hq.block (fun g dr => kd.block g (hq.lt dr).2 (hvn g dr).2), fun g dr => ⟨(hvn g dr).1, (hvn g dr).2, .inr dr⟩, ?_⟩⟩
 ·have YT : bY W (w8.setCell ⟨K.D, 11, none⟩ v') L S K { L with E := fun g => L.E g ∨ v'.ownBlock = some g } S { K with v := v' } := by
   refine ⟨(iF.more (fun g hg => .inr (.inr hg))).trans (kd.more (fun g hg => .inr (.inl hg))), fun g aW dr => ?_, fun g aW dr => ?_, fun g dr => .inl dr, rfl, rfl, rfl, rfl⟩
   ·rcases dr with dr | dr | dr
    ·exact .inl dr
    ·exact .inr (.inl dr)
    rcases hv with hv | hv
    ·have vV : v'.ownBlock = some g := dr
     rw [hv] at vV
     exact .inr (.inr vV)
    have vV : v'.ownBlock = some g := dr
    rw [hv] at vV
    injection vV with e
    omega
   rcases dr with dr | dr
   ·exact dr
   rcases hv with hv | hv
   ·rw [hv] at dr
    exact (h.en g dr).2.2
   rw [hv] at dr
   injection dr with e
   omega
  exact (bY.ak hW).trans YT
 ·intro i u hu
  have hc : Kc.cells { K with v := v' } L.d S.D { b with erase := b.erase ++ [x] } = (K.cells L.d S.D b).set 11 v' := rfl
  have pY : (Kc.cells { K with v := v' } L.d S.D { b with erase := b.erase ++ [x] })[i]? = some u := hu
  rw [hc, List.getElem?_set] at pY
  by_cases hij : 11 = i
  ·subst hij
   rw [iP rfl] at pY
   split at pY
   ·injection pY with jB
    subst jB
    exact World.cell?_setCell_same _ _ _ (Vg 11 _ rfl)
   cases pY
  rw [iN hij] at pY
  rw [World.cell?_setCell_other _ _ _ _ (by
   intro e
   injection e with _ e
   exact hij e)]
  exact Vg i u pY
 ·intro i
  rw [World.frozen?_setCell, cF (iF.block _ h.lt hnK)]
  exact h.fz i
 have hX : ∀ g, g < W.heap.size → eu { L with E := fun g => L.E g ∨ v'.ownBlock = some g } S g → eu L S g := fun g aW hy => by
  rcases hy with h5 | he | he
  ·exact .inl h5
  ·exact .inr he
  rcases hv with hv | hv
  ·rw [hv] at he
   exact .inr (h.en g he).2.2
  rw [hv] at he
  injection he with e
  omega
 exact ((h.dt.dQ hX).KS iF (fun g hg => .inr (.inl (h.en g hg).2.2))).KS kd (fun g hg => .inr (.inl (by rw [hg]; exact h.ed)))
theorem vE (F : Nat → Int) (j : Nat) : (List.range (j + 1)).map F = (List.range j).map F ++ [F j] := by rw [List.range_succ, List.map_append]; rfl
theorem EL (h : bo w0 w L S K f b) (ho : bS f b) (v n : Int) (hn : dH n) : Calls prog 36 #[.pointer (some ⟨K.D, 0, none⟩), .int .i64 v, .int .i64 n] w (xp w0 w L S K f (cA b f v n)) := by
 have g1 := ne_nil
 have g2 := fW
 have HR := iD (fe h)
 have HO := iD (gX ho)
 have h9 := ho.RC
 by_cases cQ : (ar b f).af = true
 ·have HB : Hid (cA b f v n = (ar b f, 20)) := by unfold cA; rw [Hid, iP cQ]
  rw [iP cQ, dJ (by decide)] at HR
  clear h ho cQ h9
  go_enter func36, ntmps36
  go_wp2_with (fail)
  refine HR.mono ?_
  rintro e w1 ⟨rfl, hK, hX⟩
  have HK := iD hK
  have HX := iD hX
  have c5 : w1.cell? ⟨K.D, 5, none⟩ = some (.int .i64 b.av) := hK.row 5 _ rfl
  clear hK hX
  go_wp2
  go_ret
  rw [HB]
  exact ⟨rfl, .mk' (.dh HX) HK⟩
 have jH : (ar b f).af = false := by simpa using cQ
 rw [iN cQ, bG] at HR
 have HU := iD (fV jH)
 by_cases hs : b.av = 2
 ·have HB : Hid (cA b f v n = (ar b f, 12)) := by unfold cA; rw [Hid, iN cQ, iP (.inl hs)]
  clear h ho cQ h9 jH
  go_enter func36, ntmps36
  go_wp2_with (fail)
  refine HR.mono ?_
  rintro e w1 ⟨rfl, hK, hX⟩
  have HK := iD hK
  have HX := iD hX
  have c5 : w1.cell? ⟨K.D, 5, none⟩ = some (.int .i64 b.av) := hK.row 5 _ rfl
  clear hK hX
  rw [hs] at c5
  go_wp2
  go_ret
  rw [HB]
  exact ⟨rfl, .mk' (.dh HX) HK⟩
 obtain ⟨va, vt, vk, v0, l0, c0, v1, l1, c1, hv, b1, b2, b3, -⟩ := ho.vec
 have Cf : aU b 0 = (va : Int) := by unfold aU; rw [hv]; rfl
 have iE : aU b 1 = (vt : Int) := by unfold aU; rw [hv]; rfl
 have J1 : Hid (aU (ar b f) 0 = (va : Int)) := Cf
 have uX : Hid (aU (ar b f) 1 = (vt : Int)) := iE
 have jQ : Hid ((ar b f).st.ax.length = 9) := h9
 have tr : Hid (∀ d, (ar b f).data = some d → d ≠ []) := ho.ne
 have R6 : ¬ (b.av : Int) = 2 := oM
 have hs5 : ((b.av : Int) == 2) = false := by simpa using R6
 by_cases ht : vt = 2
 case neg =>
  have HB : Hid (cA b f v n = (ar b f, 12)) := by unfold cA; rw [Hid, iN cQ, iP (.inr (.inl (by rw [iE]; omega)))]
  have JM : ¬ (vt : Int) = 2 := oM
  have Nb : ((vt : Int) == 2) = false := by simpa using JM
  clear h ho cQ h9 jH hs hv Cf iE ht
  go_enter func36, ntmps36
  go_wp2_with (fail)
  refine HR.mono ?_
  rintro e w1 ⟨rfl, hK, hX⟩
  have HK := iD hK
  have HX := iD hX
  have c5 : w1.cell? ⟨K.D, 5, none⟩ = some (.int .i64 b.av) := hK.row 5 _ rfl
  clear hK hX
  go_wp2_with (fail)
  refine (cy HK HO.ok 1 1 rfl (by rw [jQ]; omega)).mono ?_
  rintro e w2 ⟨rfl, hB⟩
  rw [uX]
  have fE := iD (HK.ab hB)
  have nr : Hid (bY w w2 L S K L S K) := (bY.dh HX).trans (bY.ak hB)
  have c6 : w2.cell? ⟨K.D, 6, none⟩ = some (.bool b.au) := fE.row 6 _ rfl
  clear hB c5
  go_wp2
  go_ret
  rw [HB]
  exact ⟨rfl, .mk' nr fE⟩
 subst ht
 by_cases gM : b.au = true
 ·have HB : Hid (cA b f v n = (ar b f, 12)) := by unfold cA; rw [Hid, iN cQ, iP (.inr (.inr gM))]
  clear h ho cQ h9 jH hs hv Cf iE
  go_enter func36, ntmps36
  go_wp2_with (fail)
  refine HR.mono ?_
  rintro e w1 ⟨rfl, hK, hX⟩
  have HK := iD hK
  have HX := iD hX
  have c5 : w1.cell? ⟨K.D, 5, none⟩ = some (.int .i64 b.av) := hK.row 5 _ rfl
  clear hK hX
  go_wp2_with (fail)
  refine (cy HK HO.ok 1 1 rfl (by rw [jQ]; omega)).mono ?_
  rintro e w2 ⟨rfl, hB⟩
  rw [uX]
  have fE := iD (HK.ab hB)
  have nr : Hid (bY w w2 L S K L S K) := (bY.dh HX).trans (bY.ak hB)
  have c6 : w2.cell? ⟨K.D, 6, none⟩ = some (.bool b.au) := fE.row 6 _ rfl
  clear hB c5
  rw [gM] at c6
  go_wp2
  go_ret
  rw [HB]
  exact ⟨rfl, .mk' nr fE⟩
 have gM : b.au = false := by simpa using gM
 have dV : ¬ (b.av = 2 ∨ aU b 1 ≠ 2 ∨ b.au = true) := by rw [iE, gM]; simp; exact hs
 by_cases hw : bO b = true
 ·have jP : Hid (bO (ar b f) = true) := hw
  have HB : Hid (cA b f v n = (ar b f, 14)) := by unfold cA; rw [Hid, iN cQ, iN dV, iP hw]
  clear h ho cQ h9 jH hs hv Cf iE hw dV
  go_enter func36, ntmps36
  go_wp2_with (fail)
  refine HR.mono ?_
  rintro e w1 ⟨rfl, hK, hX⟩
  have HK := iD hK
  have HX := iD hX
  have c5 : w1.cell? ⟨K.D, 5, none⟩ = some (.int .i64 b.av) := hK.row 5 _ rfl
  clear hK hX
  go_wp2_with (fail)
  refine (cy HK HO.ok 1 1 rfl (by rw [jQ]; omega)).mono ?_
  rintro e w2 ⟨rfl, hB⟩
  rw [uX]
  have fE := iD (HK.ab hB)
  have nr : Hid (bY w w2 L S K L S K) := (bY.dh HX).trans (bY.ak hB)
  have c6 : w2.cell? ⟨K.D, 6, none⟩ = some (.bool b.au) := fE.row 6 _ rfl
  clear hB c5
  rw [gM] at c6
  go_wp2_with (fail)
  refine (dF fE tr).mono ?_
  rintro e w3 ⟨rfl, rfl⟩
  rw [jP]
  go_wp2
  go_ret
  rw [HB]
  exact ⟨rfl, .mk' nr fE⟩
 have xt : bO b = false := by simpa using hw
 have jP : Hid (bO (ar b f) = false) := xt
 have AH : Hid (∀ w2 : World, bo w0 w2 L S K f (ar b f) → ∀ q, Calls prog 59 #[.pointer (some ⟨L.d, 0, none⟩), .int .i64 b.aa] (w2.drewN q) fun e w' => e = .returned (.int .i64 (aN f b.aa : Nat)) ∧ w' = w2.drewN q) := fun w2 hK q => by
  have hB := Below.drewN (Below.refl w2.heap.size w2) q
  refine (oK (hK.ab hB).st.fl b.k ho.k8 (b.aa : Int) (by rw [← ho.bk])).mono ?_
  rintro e w' ⟨he, hw'⟩
  rw [← ho.bk] at he
  exact ⟨he, hw'.symm⟩
 have rH : Hid (∀ W, Calls prog 58 #[.int .i64 v, .int .i64 1, .int .i64 1073741824] W fun e w' => e = .returned (.bool (decide (1 ≤ v ∧ v ≤ 1073741824))) ∧ w' = W) := fun W => (l5 v 1 1073741824 W).mono (fun e w' hh => ⟨hh.1, hh.2.symm⟩)
 have oS : Hid (∀ W, Calls prog 58 #[.int .i64 n, .int .i64 1, .int .i64 (aN f b.aa : Nat)] W fun e w' => e = .returned (.bool (decide (1 ≤ n ∧ n ≤ (aN f b.aa : Nat)))) ∧ w' = W) := fun W => (l5 n 1 _ W).mono (fun e w' hh => ⟨hh.1, hh.2.symm⟩)
 have hsz : aN f b.aa ≤ 8192 := by rw [ho.bk]; exact ec h.st.fl.ok ho.k8
 have yc : Hid (cA b f v n = if ¬ (1 ≤ v ∧ v ≤ 1073741824) ∨ ¬ (1 ≤ n ∧ n ≤ (aN f b.aa : Nat)) then (ar b f, 3) else
  ({ ar b f with au := true, dst := 1 - va, version := v, length := n.toNat, cH := 0, erase := (List.range b.k).map fun i => ((cI b (1 - va) + i : Nat) : Int) }, 0)) := by
  unfold cA
  rw [Hid, iN cQ, iN dV, iN hw, Cf, Int.toNat_natCast]
 obtain ⟨N, hN⟩ := ex (aN f b.aa)
 rw [hN] at AH oS hsz yc
 by_cases Iw : 1 ≤ v ∧ v ≤ 1073741824
 case neg =>
  have HB : Hid (cA b f v n = (ar b f, 3)) := by rw [Hid, yc, iP (.inl Iw)]
  rw [decide_eq_false Iw] at rH
  clear h ho cQ h9 jH hs hv Cf iE hw dV Iw
  go_enter func36, ntmps36
  go_wp2_with (fail)
  refine HR.mono ?_
  rintro e w1 ⟨rfl, hK, hX⟩
  have HK := iD hK
  have HX := iD hX
  have c5 : w1.cell? ⟨K.D, 5, none⟩ = some (.int .i64 b.av) := hK.row 5 _ rfl
  clear hK hX
  go_wp2_with (fail)
  refine (cy HK HO.ok 1 1 rfl (by rw [jQ]; omega)).mono ?_
  rintro e w2 ⟨rfl, hB⟩
  rw [uX]
  have fE := iD (HK.ab hB)
  have nr : Hid (bY w w2 L S K L S K) := (bY.dh HX).trans (bY.ak hB)
  have c6 : w2.cell? ⟨K.D, 6, none⟩ = some (.bool b.au) := fE.row 6 _ rfl
  clear hB c5
  rw [gM] at c6
  go_wp2_with (fail)
  refine (dF fE tr).mono ?_
  rintro e w3 ⟨rfl, rfl⟩
  rw [jP]
  have c0 : w2.cell? ⟨K.D, 0, none⟩ = some (.pointer (some ⟨L.d, 0, none⟩)) := fE.row 0 _ rfl
  have c2 : w2.cell? ⟨K.D, 2, none⟩ = some (.int .i64 b.aa) := fE.row 2 _ rfl
  have pa := iD (AH w2 fE)
  go_wp2_with (fail)
  go_quiet ((first | (go_at_call 58; with_reducible exact Calls.quiet_of_same (rH.out _)) | (go_at_call 58; with_reducible exact Calls.quiet_of_same (oS.out _)) | (go_at_call 59; with_reducible exact Calls.quiet_of_same (pa.out _))))
  go_wp2
  go_ret
  rw [HB]
  exact ⟨rfl, .mk' (nr.trans (bY.ak (Below.drewN bV _))) (fE.ab (Below.drewN bV _))⟩
 rw [decide_eq_true Iw] at rH
 by_cases Sz : 1 ≤ n ∧ n ≤ (N : Int)
 case neg =>
  have HB : Hid (cA b f v n = (ar b f, 3)) := by rw [Hid, yc, iP (.inr Sz)]
  rw [decide_eq_false Sz] at oS
  clear h ho cQ h9 jH hs hv Cf iE hw dV Iw Sz
  go_enter func36, ntmps36
  go_wp2_with (fail)
  refine HR.mono ?_
  rintro e w1 ⟨rfl, hK, hX⟩
  have HK := iD hK
  have HX := iD hX
  have c5 : w1.cell? ⟨K.D, 5, none⟩ = some (.int .i64 b.av) := hK.row 5 _ rfl
  clear hK hX
  go_wp2_with (fail)
  refine (cy HK HO.ok 1 1 rfl (by rw [jQ]; omega)).mono ?_
  rintro e w2 ⟨rfl, hB⟩
  rw [uX]
  have fE := iD (HK.ab hB)
  have nr : Hid (bY w w2 L S K L S K) := (bY.dh HX).trans (bY.ak hB)
  have c6 : w2.cell? ⟨K.D, 6, none⟩ = some (.bool b.au) := fE.row 6 _ rfl
  clear hB c5
  rw [gM] at c6
  go_wp2_with (fail)
  refine (dF fE tr).mono ?_
  rintro e w3 ⟨rfl, rfl⟩
  rw [jP]
  have c0 : w2.cell? ⟨K.D, 0, none⟩ = some (.pointer (some ⟨L.d, 0, none⟩)) := fE.row 0 _ rfl
  have c2 : w2.cell? ⟨K.D, 2, none⟩ = some (.int .i64 b.aa) := fE.row 2 _ rfl
  have pa := iD (AH w2 fE)
  go_wp2_with (fail)
  go_quiet ((first | (go_at_call 58; with_reducible exact Calls.quiet_of_same (rH.out _)) | (go_at_call 58; with_reducible exact Calls.quiet_of_same (oS.out _)) | (go_at_call 59; with_reducible exact Calls.quiet_of_same (pa.out _))))
  go_wp2
  go_ret
  rw [HB]
  exact ⟨rfl, .mk' (nr.trans (bY.ak (Below.drewN bV _))) (fE.ab (Below.drewN bV _))⟩
 rw [decide_eq_true Sz] at oS
 obtain ⟨m, hm⟩ : ∃ m : Nat, n = m := ⟨n.toNat, oM⟩
 subst hm
 obtain ⟨t, Na⟩ := ex (1 - va)
 have htd : (1 : Int) - (va : Int) = (t : Int) := oM
 have Nb : t ≤ 1 := oM
 have HB : Hid (cA b f v (m : Int) = ({ ar b f with au := true, dst := t, version := v, length := m, cH := 0, erase := (List.range b.k).map fun i => ((cI b t + i : Nat) : Int) }, 0)) := by
  rw [Hid, yc, iN (by rintro (e | e) <;> exact e (by assumption)), Na, Int.toNat_natCast]
 have nn : Hid ((ar b f).erase = []) := by
  unfold bO at xt
  simp only [Bool.or_eq_false_iff, Bool.not_eq_false', List.isEmpty_iff] at xt
  exact xt.1.1
 obtain ⟨kk, vT⟩ := ex b.k
 have Wr : b.aa = 2 * kk + 2 := by rw [← vT]; exact ho.bk
 have xv : kk ≤ 8 := by rw [← vT]; exact ho.k8
 rw [vT] at HB
 have rM : Hid (b.k = kk) := vT
 have Rf : Hid (b.first ≤ 64) := by have := ho.fw; have := h.st.fl.ok.b2; rw [Hid]; omega
 have uM : Hid (b.aa = 2 * b.k + 2 ∧ b.k ≤ 8) := ⟨ho.bk, ho.k8⟩
 have ab1 : 1 ≤ kk := by rw [← vT]; exact ho.k1
 have q1 : ((b.aa : Int) - 2).tdiv 2 = (kk : Int) := by rw [Int.tdiv_eq_ediv_of_nonneg oM]; omega
 have q2 : ((b.aa : Int) - 2) / 2 = (kk : Int) := oM
 have iT : 4 ≤ b.aa := oM
 have ach : b.aa ≤ 18 := oM
 have Sv : b.first + 2 + t * kk ≤ 82 := by
  have h1 := Rf.out
  have h2 := Nat.mul_le_mul Nb xv
  omega
 have nA : cI b t ≤ 82 := by unfold cI; rw [vT]; exact Sv
 clear h ho cQ h9 jH hs hv Cf iE hw dV xt Na vT hN Sv yc Wr
 go_enter func36, ntmps36
 go_wp2_with (fail)
 refine HR.mono ?_
 rintro e w1 ⟨rfl, hK, hX⟩
 have HK := iD hK
 have HX := iD hX
 have c5 : w1.cell? ⟨K.D, 5, none⟩ = some (.int .i64 b.av) := hK.row 5 _ rfl
 clear hK hX
 go_wp2_with (fail)
 refine (cy HK HO.ok 1 1 rfl (by rw [jQ]; omega)).mono ?_
 rintro e w2 ⟨rfl, hB⟩
 rw [uX]
 have fE := iD (HK.ab hB)
 have nr : Hid (bY w w2 L S K L S K) := (bY.dh HX).trans (bY.ak hB)
 have c6 : w2.cell? ⟨K.D, 6, none⟩ = some (.bool b.au) := fE.row 6 _ rfl
 clear hB c5
 rw [gM] at c6
 go_wp2_with (fail)
 refine (dF fE tr).mono ?_
 rintro e w3 ⟨rfl, rfl⟩
 rw [jP]
 have c0 : w2.cell? ⟨K.D, 0, none⟩ = some (.pointer (some ⟨L.d, 0, none⟩)) := fE.row 0 _ rfl
 have c2 : w2.cell? ⟨K.D, 2, none⟩ = some (.int .i64 b.aa) := fE.row 2 _ rfl
 have pa := iD (AH w2 fE)
 go_wp2_with (fail)
 go_quiet ((first | (go_at_call 58; with_reducible exact Calls.quiet_of_same (rH.out _)) | (go_at_call 58; with_reducible exact Calls.quiet_of_same (oS.out _)) | (go_at_call 59; with_reducible exact Calls.quiet_of_same (pa.out _))))
 obtain ⟨W3, mC⟩ := ex (w2.drewN nq)
 have pq : Hid (bo w0 W3 L S K f (ar b f)) := by rw [← mC]; exact fE.ab (Below.drewN bV _)
 have G0 : Hid (bY w W3 L S K L S K) := by rw [← mC]; exact nr.trans (bY.ak (Below.drewN bV _))
 rw [mC]
 clear mC c6 c0 c2
 go_wp2_with (fail)
 refine (cy pq HO.ok 0 0 rfl (by rw [jQ]; omega)).mono ?_
 rintro e w4 ⟨rfl, hB⟩
 rw [J1]
 have xC := iD (pq.ab hB)
 have JB : Hid (bY w w4 L S K L S K) := G0.trans (bY.ak hB)
 have uq := iD (xC.jX 6 (.bool true) { ar b f with au := true } rfl rfl rfl rfl)
 have Dk := iD (uq.1.jX 7 (.int .i64 t) { ar b f with au := true, dst := t } rfl rfl rfl rfl)
 have vb := iD (Dk.1.jX 8 (.int .i64 v) { ar b f with au := true, dst := t, version := v } rfl rfl rfl rfl)
 have HC4 := iD (vb.1.jX 9 (.int .i64 m) { ar b f with au := true, dst := t, version := v, length := m } rfl rfl rfl rfl)
 have UX := iD (HC4.1.jX 10 (.int .i64 0) { ar b f with au := true, dst := t, version := v, length := m, cH := 0 } rfl rfl rfl rfl)
 have z6 := xC.fz 6
 have z7 := xC.fz 7
 have z8 := xC.fz 8
 have z9 := xC.fz 9
 have AS := xC.fz 10
 have y6 : w4.cell? ⟨K.D, 6, none⟩ = some (.bool b.au) := xC.row 6 _ rfl
 have y7 : w4.cell? ⟨K.D, 7, none⟩ = some (.int .i64 b.dst) := xC.row 7 _ rfl
 have y8 : w4.cell? ⟨K.D, 8, none⟩ = some (.int .i64 b.version) := xC.row 8 _ rfl
 have y9 : w4.cell? ⟨K.D, 9, none⟩ = some (.int .i64 b.length) := xC.row 9 _ rfl
 have PV : w4.cell? ⟨K.D, 10, none⟩ = some (.int .i64 b.cH) := xC.row 10 _ rfl
 have y2 : w4.cell? ⟨K.D, 2, none⟩ = some (.int .i64 b.aa) := xC.row 2 _ rfl
 clear hB
 go_wp2_with (fail)
 obtain ⟨W5, pD⟩ := ex (((((w4.setCell ⟨K.D, 6, none⟩ (.bool true)).setCell ⟨K.D, 7, none⟩ (.int .i64 t)).setCell ⟨K.D, 8, none⟩ (.int .i64 v)).setCell ⟨K.D, 9, none⟩ (.int .i64 m)).setCell ⟨K.D, 10, none⟩ (.int .i64 0))
 have HT5 : Hid (nt w0 w L S K f { ar b f with au := true, dst := t, version := v, length := m, cH := 0, erase := (List.range 0).map fun (i : Nat) => ((cI b t + i : Nat) : Int) } W5) := by
  rw [← pD]
  have := UX.out.1
  refine .mk' (JB.trans ((bY.dh uq.2).trans ((bY.dh Dk.2).trans ((bY.dh vb.2).trans ((bY.dh HC4.2).trans (bY.dh UX.2)))))) ?_
  have e : (ar b f).erase = (List.range 0).map fun (i : Nat) => ((cI b t + i : Nat) : Int) := nn
  rw [← e]
  exact UX.1
 rw [pD]
 clear pD z6 z7 z8 z9 AS y6 y7 y8 y9 PV y2
 go_loopw [81] (fun i wr => ∃ j : Nat, j ≤ kk ∧ i = .int .i64 j ∧ nt w0 w L S K f { ar b f with au := true, dst := t, version := v, length := m, cH := 0, erase := (List.range j).map fun (i : Nat) => ((cI b t + i : Nat) : Int) } wr) (fun i _ => kk - (intOf i).toNat)
 case atStart => exact ⟨0, Nat.zero_le _, rfl, HT5⟩
 case round =>
  obtain ⟨j, hj, rfl, hT⟩ := hrel
  by_cases aW : j < kk
  ·obtain ⟨L1, S1, K1, hA, hK⟩ := hT
   have sc := iD hK
   have JA := iD hA
   have hd := hA.d
   have HD := iD hd
   have rS : wr.cell? ⟨K.D, 11, none⟩ = some K1.v := by rw [← hd]; exact hK.row 11 _ rfl
   have c7 : wr.cell? ⟨K.D, 7, none⟩ = some (.int .i64 t) := by rw [← hd]; exact hK.row 7 _ rfl
   have Kd : wr.frozen? ⟨K.D, 11, none⟩ = false := by rw [← hd]; exact hK.fz 11
   have iJ : Hid (∀ W, bW wr W → W.cell? ⟨K.D, 11, none⟩ = some K1.v ∧ W.cell? ⟨K.D, 7, none⟩ = some (.int .i64 t)) := fun W hB => by
    have h1 := (sc.ab hB).row 11 _ rfl
    have h2 := (sc.ab hB).row 7 _ rfl
    rw [HD] at h1 h2
    exact ⟨h1, h2⟩
   have TJ : Hid (∀ W, bW wr W → Calls prog 86 #[.pointer (some ⟨K.D, 0, none⟩), .int .i64 t] W fun e w' => e = .returned (.int .i64 (cI b t : Nat)) ∧ ∃ q, w' = W.drewN q) := fun W hB => by
    have := qk (sc.ab hB) uM.1 uM.2 Rf (t : Int) t rfl oM
    rw [HD] at this
    exact this
   have HQ : Hid (∀ W, bW wr W → QS W 3 w0.heap.size K1.v ((List.range j).map fun (i : Nat) => ((cI b t + i : Nat) : Int))) := fun W hB => (sc.ab hB).er
   have J9 : Hid (∀ W, bW wr W → w0.heap.size ≤ W.heap.size) := fun W hB => (sc.ab hB).st.fl.below.size
   have q3 : IntKind.i64.wrap (((cI b t : Nat) : Int) + (j : Int)) = ((cI b t + j : Nat) : Int) := by rw [IntWalk.i64_in _ oM]; push_cast; rfl
   have FC : Hid (((List.range j).map fun (i : Nat) => ((cI b t + i : Nat) : Int)).length + 1 ≤ 1000000000) := by rw [Hid, List.length_map, List.length_range]; omega
   obtain ⟨i3, vU, kE, jN, lh⟩ := info_parts mq
   have GY : Hid (∀ (q : Nat) (o : Obj), bW wr ((wr.drewN q).alloc o)) := fun q o => (Below.drewN (Below.refl wr.heap.size wr) q).alloc (by rw [EV]; exact Nat.le_refl _) o
   have HZG : Hid (∀ W w8 : World, bW wr W → W.grownBy w8 K1.v.ownBlock → w8.cell? ⟨K.D, 11, none⟩ = some K1.v ∧ w8.frozen? ⟨K.D, 11, none⟩ = false) := fun W w8 hB hg => by
    have hk := sc.ab hB
    have hb := hg.block K.D (by rw [← HD]; exact hk.lt) (fun e => (hk.en _ (by rw [HD]; exact e.symm)).2.1 rfl)
    have h1 := hk.row 11 _ rfl
    have h2 := hk.fz 11
    rw [HD] at h1 h2
    exact ⟨(cell_of_block hb).trans h1, (cF hb).trans h2⟩
   have HKG : Hid (∀ W w8 : World, bW wr W → W.grownBy w8 K1.v.ownBlock → w8.cell? ⟨K.D, 11, none⟩ = some K1.v ∧ w8.cell? ⟨K.D, 7, none⟩ = some (.int .i64 t)) := fun W w8 hB hg => by
    have hk := sc.ab hB
    have hb := hg.block K.D (by rw [← HD]; exact hk.lt) (fun e => (hk.en _ (by rw [HD]; exact e.symm)).2.1 rfl)
    have h1 := hk.row 11 _ rfl
    have h2 := hk.row 7 _ rfl
    rw [HD] at h1 h2
    exact ⟨(cell_of_block hb).trans h1, (cell_of_block hb).trans h2⟩
   have acy : ∀ q, (wr.drewN q).cell? ⟨K.D, 11, none⟩ = some K1.v := fun q => (iJ _ (Below.drewN bV q)).1
   have acz : ∀ (q : Nat) (o : Obj), ((wr.drewN q).alloc o).cell? ⟨K.D, 11, none⟩ = some K1.v := fun q o => (iJ _ (GY q o)).1
   clear hA hK hd
   go_wp2_with (fail)
   go_region_law (first
    | (refine DR (al := [.pointer (some ⟨K.D, 0, none⟩), .int .i64 t]) rfl _ _ rfl rfl LY ?_; refine (TJ _ (by first | exact Below.refl _ _ | exact Below.drewN bV _ | exact Below.drew bV)).mono ?_; rintro e wp ⟨rfl, qb, rfl⟩; refine ⟨_, rfl, ?_⟩)
    | (refine vj rfl _ _ 33 rfl w0.heap.size 3 i3 (.int .i64 0) underlying33 vU kE jN lh rfl K1.v _ rfl (HQ _ (by first | exact GY _ _ | exact Below.refl _ _ | exact Below.drewN bV _ | exact Below.drew bV | exact Below.drew (Below.drewN bV _) | exact Below.drewN (Below.drew bV) _)) ((cI b t + j : Nat) : Int) _ 1 rfl (by first | exact cm _ _ _ 0 _ _ rfl rfl) FC (J9 _ (by first | exact GY _ _ | exact Below.refl _ _ | exact Below.drewN bV _ | exact Below.drew bV | exact Below.drew (Below.drewN bV _) | exact Below.drewN (Below.drew bV) _)) ?_; intro v8 w8 hq8 Gu Of; obtain ⟨c8, z8⟩ := HZG _ _ (GY _ _) Gu; obtain ⟨-, c87⟩ := HKG _ _ (GY _ _) Gu; obtain ⟨A8, E8, rfl, EA, Ez⟩ := hq8.form))
   all_goals
    have HT9 : Hid (nt w0 w L S K f { ar b f with au := true, dst := t, version := v, length := m, cH := 0, erase := (List.range (j + 1)).map fun (i : Nat) => ((cI b t + i : Nat) : Int) } (w8.setCell ⟨K.D, 11, none⟩ (.slice A8 (j + 1) E8))) := by
     have hlen : (((List.range j).map fun (i : Nat) => ((cI b t + i : Nat) : Int)) ++ [((cI b t + j : Nat) : Int)]).length = j + 1 := by simp
     have := sc.append (GY _ _) hq8 Gu Of
     rw [hlen] at this
     rw [HD] at this
     rw [vE]
     exact nt.then JA this
    clear hq8 Gu Of
    go_wp2
    go_roundw
    case rel => exact ⟨j + 1, oM, by go_num, HT9⟩
    case measure => simp [intOf]; omega
  have Nj : j = kk := oM
  subst Nj
  have HT6 := iD hT
  clear hT
  go_wp2
  go_ret
  rw [HB]
  exact ⟨rfl, HT6⟩
end
section
variable {w0 w w1 w' : World} {L L' : Lc} {S S' : Sc} {K K' : Kc} {f f' : Fl} {b b' : Bk} {s : St}
theorem IN (h : bo w0 w L S K f b) (ho : bS f b) (A : Option Addr) (n c : Nat) (x : List Int) (hA : cn (qv L S K) w A (ag .u8 x)) (hn : x.length = n) (qa : n ≤ c) (fS : c ≤ maxLen) : Calls prog 39 #[.pointer (some ⟨K.D, 0, none⟩), .slice A n c] w (xp w0 w L S K f (dG b f x)) := by
 have g1 := ne_nil
 have g2 := fW
 have HR := iD (fe h)
 have HO := iD (gX ho)
 have tr : Hid (∀ d, (ar b f).data = some d → d ≠ []) := ho.ne
 have HA := iD hA
 unfold maxLen at fS
 by_cases cQ : (ar b f).af = true
 ·have HB : Hid (dG b f x = (ar b f, 20)) := by unfold dG; rw [Hid, iP cQ]
  rw [iP cQ, dJ (by decide)] at HR
  clear h ho cQ hA hn
  go_enter func39, ntmps39
  go_wp2_with (fail)
  refine HR.mono ?_
  rintro e w1 ⟨rfl, hK, hX⟩
  have HK := iD hK
  have HX := iD hX
  have c6 : w1.cell? ⟨K.D, 6, none⟩ = some (.bool b.au) := hK.row 6 _ rfl
  have uf : w1.cell? ⟨K.D, 10, none⟩ = some (.int .i64 b.cH) := hK.row 10 _ rfl
  have c9 : w1.cell? ⟨K.D, 9, none⟩ = some (.int .i64 b.length) := hK.row 9 _ rfl
  clear hK hX
  go_wp2
  go_ret
  rw [HB]
  exact ⟨rfl, .mk' (.dh HX) HK⟩
 rw [iN cQ, bG] at HR
 by_cases gM : b.au = false
 ·have HB : Hid (dG b f x = (ar b f, 12)) := by unfold dG; rw [Hid, iN cQ, iP (.inl gM)]
  clear h ho cQ hA hn
  go_enter func39, ntmps39
  go_wp2_with (fail)
  refine HR.mono ?_
  rintro e w1 ⟨rfl, hK, hX⟩
  have HK := iD hK
  have HX := iD hX
  have c6 : w1.cell? ⟨K.D, 6, none⟩ = some (.bool b.au) := hK.row 6 _ rfl
  have uf : w1.cell? ⟨K.D, 10, none⟩ = some (.int .i64 b.cH) := hK.row 10 _ rfl
  have c9 : w1.cell? ⟨K.D, 9, none⟩ = some (.int .i64 b.length) := hK.row 9 _ rfl
  clear hK hX
  rw [gM] at c6
  go_wp2_with (fail)
  go_quiet (fail)
  go_wp2
  go_ret
  rw [HB]
  exact ⟨rfl, .mk' ((bY.dh HX).trans (bY.ak (Below.drewN bV _))) (HK.ab (Below.drewN bV _))⟩
 have zQ := gM
 have gM : b.au = true := by simpa using gM
 by_cases gU : b.cH = b.length
 ·have HB : Hid (dG b f x = (ar b f, 12)) := by unfold dG; rw [Hid, iN cQ, iP (.inr gU)]
  clear h ho cQ hA hn zQ
  go_enter func39, ntmps39
  go_wp2_with (fail)
  refine HR.mono ?_
  rintro e w1 ⟨rfl, hK, hX⟩
  have HK := iD hK
  have HX := iD hX
  have c6 : w1.cell? ⟨K.D, 6, none⟩ = some (.bool b.au) := hK.row 6 _ rfl
  have uf : w1.cell? ⟨K.D, 10, none⟩ = some (.int .i64 b.cH) := hK.row 10 _ rfl
  have c9 : w1.cell? ⟨K.D, 9, none⟩ = some (.int .i64 b.length) := hK.row 9 _ rfl
  rw [gU] at uf
  clear hK hX gU
  rw [gM] at c6
  go_wp2_with (fail)
  go_quiet (fail)
  go_wp2
  go_ret
  rw [HB]
  exact ⟨rfl, .mk' ((bY.dh HX).trans (bY.ak (Below.drewN bV _))) (HK.ab (Below.drewN bV _))⟩
 have dV : ¬ (b.au = false ∨ b.cH = b.length) := fun e => by rcases e with e | e <;> contradiction
 have Iv := ho.cH
 have Uf : b.length ≤ 8192 := Nat.le_trans ho.len (by rw [ho.bk]; exact ec h.st.fl.ok ho.k8)
 have Cr : ¬ (b.cH : Int) = (b.length : Int) := oM
 have Nm : ((b.cH : Int) == (b.length : Int)) = false := by simpa using Cr
 by_cases hw : bO b = true
 ·have jP : Hid (bO (ar b f) = true) := hw
  have HB : Hid (dG b f x = (ar b f, 14)) := by unfold dG; rw [Hid, iN cQ, iN dV, iP hw]
  clear h ho cQ hA hn zQ dV hw
  go_enter func39, ntmps39
  go_wp2_with (fail)
  refine HR.mono ?_
  rintro e w1 ⟨rfl, hK, hX⟩
  have HK := iD hK
  have HX := iD hX
  have c6 : w1.cell? ⟨K.D, 6, none⟩ = some (.bool b.au) := hK.row 6 _ rfl
  have uf : w1.cell? ⟨K.D, 10, none⟩ = some (.int .i64 b.cH) := hK.row 10 _ rfl
  have c9 : w1.cell? ⟨K.D, 9, none⟩ = some (.int .i64 b.length) := hK.row 9 _ rfl
  clear hK hX
  rw [gM] at c6
  go_wp2_with (fail)
  go_quiet (fail)
  obtain ⟨W2, lY⟩ := ex (w1.drewN nq)
  have fE : Hid (bo w0 W2 L S K f (ar b f)) := by rw [← lY]; exact HK.ab (Below.drewN bV _)
  have nr : Hid (bY w W2 L S K L S K) := by rw [← lY]; exact (bY.dh HX).trans (bY.ak (Below.drewN bV _))
  rw [lY]
  clear lY c6 c9 uf
  go_wp2_with (fail)
  refine (dF fE tr).mono ?_
  rintro e w3 ⟨rfl, rfl⟩
  rw [jP]
  have d9 : W2.cell? ⟨K.D, 9, none⟩ = some (.int .i64 b.length) := fE.row 9 _ rfl
  have d10 : W2.cell? ⟨K.D, 10, none⟩ = some (.int .i64 b.cH) := fE.row 10 _ rfl
  go_wp2
  go_ret
  rw [HB]
  exact ⟨rfl, .mk' nr fE⟩
 have xt : bO b = false := by simpa using hw
 have jP : Hid (bO (ar b f) = false) := xt
 obtain ⟨M, hM⟩ := ex (min 64 (b.length - b.cH))
 have Sh : min (64 : Int) ((b.length : Int) - (b.cH : Int)) = (M : Int) := oM
 have R3 : IntKind.i64.wrap ((b.length : Int) - (b.cH : Int)) = (b.length : Int) - (b.cH : Int) := IntWalk.i64_in _ oM
 by_cases hxl : n = M
 case neg =>
  have HB : Hid (dG b f x = (ar b f, 11)) := by unfold dG; rw [Hid, iN cQ, iN dV, iN hw, iP (by rw [hM, hn]; exact hxl)]
  have Eo : ¬ (n : Int) = (M : Int) := oM
  have yL : ((n : Int) == (M : Int)) = false := by simpa using Eo
  clear h ho cQ hA hn zQ dV hw xt hM hxl
  go_enter func39, ntmps39
  go_wp2_with (fail)
  refine HR.mono ?_
  rintro e w1 ⟨rfl, hK, hX⟩
  have HK := iD hK
  have HX := iD hX
  have c6 : w1.cell? ⟨K.D, 6, none⟩ = some (.bool b.au) := hK.row 6 _ rfl
  have uf : w1.cell? ⟨K.D, 10, none⟩ = some (.int .i64 b.cH) := hK.row 10 _ rfl
  have c9 : w1.cell? ⟨K.D, 9, none⟩ = some (.int .i64 b.length) := hK.row 9 _ rfl
  clear hK hX
  rw [gM] at c6
  go_wp2_with (fail)
  go_quiet (fail)
  obtain ⟨W2, lY⟩ := ex (w1.drewN nq)
  have fE : Hid (bo w0 W2 L S K f (ar b f)) := by rw [← lY]; exact HK.ab (Below.drewN bV _)
  have nr : Hid (bY w W2 L S K L S K) := by rw [← lY]; exact (bY.dh HX).trans (bY.ak (Below.drewN bV _))
  rw [lY]
  clear lY c6 c9 uf
  go_wp2_with (fail)
  refine (dF fE tr).mono ?_
  rintro e w3 ⟨rfl, rfl⟩
  rw [jP]
  have d9 : W2.cell? ⟨K.D, 9, none⟩ = some (.int .i64 b.length) := fE.row 9 _ rfl
  have d10 : W2.cell? ⟨K.D, 10, none⟩ = some (.int .i64 b.cH) := fE.row 10 _ rfl
  go_wp2_with (fail)
  go_quiet (fail)
  go_wp2
  go_ret
  rw [HB]
  exact ⟨rfl, .mk' (nr.trans (bY.ak (Below.drewN bV _))) (fE.ab (Below.drewN bV _))⟩
 subst hxl
 obtain ⟨D, hD⟩ := ex b.dst
 obtain ⟨B1, EE⟩ := ex (cI b D)
 obtain ⟨P, hP⟩ := ex f.pg
 have SK : D ≤ 1 := by rw [← hD]; exact ho.dst
 have lX : b.first ≤ 64 := by have := ho.fw; have := h.st.fl.ok.b2; omega
 have WM : B1 ≤ 82 := by
  rw [← EE]; unfold cI
  have := Nat.mul_le_mul SK ho.k8
  omega
 have aaL : P ≤ 16 := by rw [← hP]; exact h.st.fl.ok.p2
 have WL : B1 * P ≤ 82 * 16 := Nat.mul_le_mul WM aaL
 obtain ⟨PG, hPG⟩ := ex (B1 * P + b.cH / 64)
 obtain ⟨BP, WK⟩ := ex (B1 * P)
 obtain ⟨Q, hQ⟩ := ex (b.cH / 64)
 have abX : ((B1 : Int) * (P : Int)) = (BP : Int) := by rw [← WK]; push_cast; rfl
 have q0 : IntKind.i64.wrap (BP : Int) = (BP : Int) := IntWalk.i64_in _ oM
 have q2 : ((b.cH : Nat) : Int).tdiv 64 = (Q : Int) := by rw [Int.tdiv_eq_ediv_of_nonneg oM]; omega
 have q2' : ((b.cH : Nat) : Int) / 64 = (Q : Int) := oM
 have q2w : IntKind.i64.wrap (Q : Int) = (Q : Int) := IntWalk.i64_in _ oM
 have q3 : (BP : Int) + (Q : Int) = (PG : Int) := oM
 have q4 : IntKind.i64.wrap (PG : Int) = (PG : Int) := IntWalk.i64_in _ oM
 have HB : Hid (dG b f x = ({ ar b f with page := PG, data := some (gg x), cH := b.cH + n }, 0)) := by
  unfold dG; rw [Hid, iN cQ, iN dV, iN hw, iN (by rw [hM, hn]; simp), hn, hD, EE, hP, hPG]
 have zW : n ≤ 64 := oM
 have hfn : b.cH + n ≤ 8192 := oM
 have Rf : Hid (b.first ≤ 64) := lX
 have uM : Hid (b.aa = 2 * b.k + 2 ∧ b.k ≤ 8) := ⟨ho.bk, ho.k8⟩
 have Nu := iD hD
 have ur := iD EE
 have HPP := iD hP
 have HN := iD hn
 clear h ho cQ hA hn zQ dV hw xt hM hD EE hP hPG lX WL WK hQ
 go_enter func39, ntmps39
 go_wp2_with (fail)
 refine HR.mono ?_
 rintro e w1 ⟨rfl, hK, hX⟩
 have HK := iD hK
 have HX := iD hX
 have c6 : w1.cell? ⟨K.D, 6, none⟩ = some (.bool b.au) := hK.row 6 _ rfl
 have uf : w1.cell? ⟨K.D, 10, none⟩ = some (.int .i64 b.cH) := hK.row 10 _ rfl
 have c9 : w1.cell? ⟨K.D, 9, none⟩ = some (.int .i64 b.length) := hK.row 9 _ rfl
 clear hK hX
 rw [gM] at c6
 go_wp2_with (fail)
 go_quiet (fail)
 obtain ⟨W2, lY⟩ := ex (w1.drewN nq)
 have fE : Hid (bo w0 W2 L S K f (ar b f)) := by rw [← lY]; exact HK.ab (Below.drewN bV _)
 have nr : Hid (bY w W2 L S K L S K) := by rw [← lY]; exact (bY.dh HX).trans (bY.ak (Below.drewN bV _))
 rw [lY]
 clear lY c6 c9 uf
 go_wp2_with (fail)
 refine (dF fE tr).mono ?_
 rintro e w3 ⟨rfl, rfl⟩
 rw [jP]
 have d9 : W2.cell? ⟨K.D, 9, none⟩ = some (.int .i64 b.length) := fE.row 9 _ rfl
 have d10 : W2.cell? ⟨K.D, 10, none⟩ = some (.int .i64 b.cH) := fE.row 10 _ rfl
 go_wp2_with (fail)
 go_quiet (fail)
 obtain ⟨W3, mC⟩ := ex (W2.drewN nq)
 have pq : Hid (bo w0 W3 L S K f (ar b f)) := by rw [← mC]; exact fE.ab (Below.drewN bV _)
 have G0 : Hid (bY w W3 L S K L S K) := by rw [← mC]; exact nr.trans (bY.ak (Below.drewN bV _))
 rw [mC]
 clear mC d9 d10
 have iJ : Hid (∀ W, bW W3 W → W.cell? ⟨K.D, 7, none⟩ = some (.int .i64 D) ∧ W.cell? ⟨K.D, 0, none⟩ = some (.pointer (some ⟨L.d, 0, none⟩)) ∧ W.cell? ⟨K.D, 10, none⟩ = some (.int .i64 b.cH)) := fun W hB => by
  have h1 := (pq.ab hB).row 7 _ rfl
  rw [show (ar b f).dst = D from Nu] at h1
  exact ⟨h1, (pq.ab hB).row 0 _ rfl, (pq.ab hB).row 10 _ rfl⟩
 have Re : Hid (∀ (q : Nat) (u : Value), ((W3.drewN q).setCell ⟨K.D, 12, none⟩ u).cell? ⟨K.D, 7, none⟩ = some (.int .i64 D) ∧ ((W3.drewN q).setCell ⟨K.D, 12, none⟩ u).cell? ⟨K.D, 0, none⟩ = some (.pointer (some ⟨L.d, 0, none⟩)) ∧ ((W3.drewN q).setCell ⟨K.D, 12, none⟩ u).cell? ⟨K.D, 10, none⟩ = some (.int .i64 b.cH)) := fun q u => by
  obtain ⟨h1, h2, h3⟩ := iJ _ (Below.drewN (Below.refl W3.heap.size W3) q)
  exact ⟨(World.cell?_setCell_other _ _ _ _ (by simp)).trans h1, (World.cell?_setCell_other _ _ _ _ (by simp)).trans h2, (World.cell?_setCell_other _ _ _ _ (by simp)).trans h3⟩
 obtain ⟨d7, d0, d10⟩ := iJ _ bV
 have NB := pq.fz 12
 have d12 : W3.cell? ⟨K.D, 12, none⟩ = some (.int .i64 b.page) := pq.row 12 _ rfl
 have TJ : Hid (∀ W, bW W3 W → Calls prog 86 #[.pointer (some ⟨K.D, 0, none⟩), .int .i64 D] W fun e w' => e = .returned (.int .i64 B1) ∧ ∃ q, w' = W.drewN q) := fun W hB => by
  have := qk (pq.ab hB) uM.1 uM.2 Rf (D : Int) D rfl oM
  rw [show cI (ar b f) D = B1 from ur] at this
  exact this
 have Fx : Hid (∀ W, bW W3 W → Calls prog 61 #[.pointer (some ⟨L.d, 0, none⟩)] W fun e w' => e = .returned (.int .i64 P) ∧ w' = W) := fun W hB => by
  have := iq (pq.ab hB).st.fl
  rw [HPP] at this
  exact this.mono (fun e w' hh => ⟨hh.1, hh.2.symm⟩)
 have abj : Hid (∀ q, Calls prog 63 #[.slice A n c] ((W3.drewN q).setCell ⟨K.D, 12, none⟩ (.int .i64 PG)) fun e w' => ∃ A' c', e = .returned (.slice A' 64 c') ∧ 64 ≤ c' ∧ c' ≤ maxLen ∧ bo w0 w' L S K f { ar b f with page := PG } ∧ bY w w' L S K L S K ∧ cn (eu L S) w' A' (ag .u8 (gg x))) := fun q => by
  have hbq := Below.drewN (Below.refl W3.heap.size W3) q
  have hkq := pq.ab hbq
  obtain ⟨mB, sT⟩ := hkq.jX 12 (.int .i64 PG) { ar b f with page := PG } rfl rfl rfl rfl
  have qR : cn (qv L S K) ((W3.drewN q).setCell ⟨K.D, 12, none⟩ (.int .i64 PG)) A (ag .u8 x) := ((HA.ao G0.only).ao (ah.ak hbq)).ao sT (fun g hg => .inr (.inl hg))
  refine (Gb A n c x _ qR.rd HN zW).mono ?_
  rintro e w' ⟨A', c', he, ho, hb⟩
  obtain ⟨A2, c2, e2, h4, h5, -⟩ := a9 ho
  injection e2 with Uz Zc SW
  subst Uz SW
  refine ⟨A', c', he, h4, h5, mB.ab hb, G0.trans ((bY.ak hbq).trans ((bY.dh sT).trans (bY.ak hb))), lA (by rw [aE]; exact eR (by rw [HN]; exact zW)) ho (fun g hg => mB.st.dY g hg)⟩
 go_wp2_with (fail)
 go_region_held3 (fun w9 => w9.cell? ⟨K.D, 7, none⟩ = some (.int .i64 D) ∧ w9.cell? ⟨K.D, 0, none⟩ = some (.pointer (some ⟨L.d, 0, none⟩)) ∧ w9.cell? ⟨K.D, 10, none⟩ = some (.int .i64 b.cH)) (first | exact iJ _ (Below.drewN bV _) | exact Re _ _ | exact iJ _ (Below.drew (Below.drewN bV _)) | go_keep) (first
  | (go_at_call 86; refine (TJ _ (by first | exact Below.refl _ _ | exact Below.drewN bV _ | exact Below.drew bV)).mono ?_; rintro e wp ⟨rfl, qb, rfl⟩)
  | (go_at_call 61; refine (Fx _ (by first | exact Below.refl _ _ | exact Below.drewN bV _ | exact Below.drew bV)).mono ?_; rintro e wp ⟨rfl, rfl⟩))
 all_goals
  clear d7 d0 d10 NB d12
  go_wp2_with (fail)
  refine (abj _).mono ?_
  rintro e w4 ⟨A4, c4, rfl, mB, sT, hK, hA, hR⟩
  have JB := iD hA
  have d13 : w4.cell? ⟨K.D, 13, none⟩ = some (.slice K.A K.n K.c) := hK.row 13 _ rfl
  have d10 : w4.cell? ⟨K.D, 10, none⟩ = some (.int .i64 b.cH) := hK.row 10 _ rfl
  have Kb := hK.fz 13
  have AS := hK.fz 10
  have uq := iD (hK.cell 13 (.slice A4 64 c4) { K with A := A4, n := 64, c := c4 } { ar b f with page := PG, data := some (gg x) } rfl rfl rfl hK.er hK.en ⟨hR, eR (by rw [HN]; exact zW), mB, sT⟩)
  have Dk := iD (uq.1.jX 10 (.int .i64 ((b.cH + n : Nat) : Int)) { ar b f with page := PG, data := some (gg x), cH := b.cH + n } rfl rfl rfl rfl)
  have q5 : (b.cH : Int) + (n : Int) = ((b.cH + n : Nat) : Int) := by push_cast; rfl
  have XL := iD q5
  rw [← q5] at Dk
  clear hK hA hR q5
  go_wp2
  go_ret
  rw [HB]
  refine ⟨rfl, L, S, { K with A := A4, n := 64, c := c4 }, ?_, Dk.1⟩
  exact JB.trans ((bY.mT uq.2 (K' := { K with A := A4, n := 64, c := c4 }) rfl (fun g _ hg => hg)).trans (bY.dh Dk.2))
end
section
variable {w0 w w1 w' : World} {L L' : Lc} {S S' : Sc} {K K' : Kc} {f f' : Fl} {b b' : Bk} {s : St}
def Tf (w0 w : World) (L : Lc) (S : Sc) (K : Kc) (q : Bk × Fl × Bool × Int) (e : Ending) (w' : World) : Prop :=
 e = .returned (.tuple #[.bool q.2.2.1, fy q.2.2.2]) ∧ nt w0 w L S K q.2.1 q.1 w'
theorem bo.flash (h : bo w0 w L S K f b) (hf : bB w0 w' L f') (ho : cE L w w') (hp : f'.az = f.az) : bo w0 w' L S K f' b ∧ bY w w' L S K L S K :=
 ⟨h.prog (h.st.EI hf ho hp) rfl rfl (.j9 ho (bQ.fl L S)), bY.iQ (.j9 ho (bQ.fl L S)) rfl rfl⟩
theorem G5 (b : Bk) (f : Fl) (s : St) (d : Bool) (h1 : b.erase = []) (h2 : b.data = none) : bO { ar b f with st := s, bh := !d } = !d := by
 show (!b.erase.isEmpty || b.data.isSome || !d) = !d
 rw [h1, h2]
 rfl
theorem IH (h : bo w0 w L S K f b) (ho : bS f b) : Calls prog 53 #[.pointer (some ⟨K.D, 0, none⟩)] w (Tf w0 w L S K (aK b f)) := by
 have g1 := ne_nil
 have g2 := fW
 have HR := iD (fe h)
 have HO := iD (gX ho)
 by_cases cQ : (ar b f).af = true
 ·have HB : Hid (aK b f = (ar b f, f, false, 20)) := by unfold aK; rw [Hid, iP cQ]
  rw [iP cQ, dJ (by decide)] at HR
  clear h ho cQ
  go_enter func53, ntmps53
  go_wp2_with (fail)
  refine HR.mono ?_
  rintro e w1 ⟨rfl, hK, hX⟩
  have HK := iD hK
  have HX := iD hX
  clear hK hX
  go_wp2
  go_ret2
  rw [HB]
  exact ⟨rfl, .mk' (.dh HX) HK⟩
 have jH : (ar b f).af = false := by simpa using cQ
 have HU := iD (fV jH)
 rw [iN cQ, bG] at HR
 have tr : Hid (∀ d, (ar b f).data = some d → d ≠ []) := ho.ne
 cases he : b.erase with
 | cons e0 l =>
  have hq := h.er
  rw [he] at hq
  obtain ⟨g, off, cap, hv, Oz, Qx, -, AY⟩ := hq.front
  have hgn := h.en g (by rw [hv]; rfl)
  have jY := iD hv
  have pt : Hid (∀ (W : World) (f' : Fl) (b' : Bk), bo w0 W L S K f' b' → b'.erase = e0 :: l → W.cell? ⟨K.D, 0, none⟩ = some (.pointer (some ⟨L.d, 0, none⟩)) ∧ W.cell? ⟨K.D, 11, none⟩ = some (.slice (some ⟨g, off, none⟩) (l.length + 1) cap) ∧ W.cell? ⟨g, off, none⟩ = some (.int .i64 e0)) := fun W f' b' hK cU => by
   have h1 := hK.row 0 _ rfl
   have h2 := hK.row 11 _ rfl
   have h3 := hK.er
   rw [cU] at h3
   obtain ⟨g', sI, O6, Oh, -, -, h4, -⟩ := h3.front
   rw [jY] at Oh h2
   injection Oh with e1 _ _
   injection e1 with e1
   injection e1 with e1 e2
   subst e1 e2
   exact ⟨h1, h2, h4⟩
  have HQ : Hid (∀ (W : World) (f' : Fl) (b' : Bk), bo w0 W L S K f' b' → b'.erase = e0 :: l → QS W 3 w0.heap.size (if cap = 1 then .slice (some ⟨g, off, none⟩) l.length 0 else .slice (some ⟨g, off + 1, none⟩) l.length (cap - 1)) l) := fun W f' b' hK cU => by
   have h3 := hK.er
   rw [cU] at h3
   obtain ⟨g', sI, O6, Oh, -, -, -, h5⟩ := h3.front
   rw [jY] at Oh
   injection Oh with e1 _ e3
   injection e1 with e1
   injection e1 with e1 e2
   subst e1 e2 e3
   exact h5
  have xB : Hid ((ar b f).erase = e0 :: l) := he
  have HGN := iD hgn
  have nn : Hid (∀ w1 : World, bo w0 w1 L S K f (ar b f) → ∀ q, Calls prog 60 #[.pointer (some ⟨L.d, 0, none⟩), .int .i64 e0] (w1.drewN q) fun e w' => e = .returned (fy (aT f e0).2) ∧ bo w0 w' L S K (aT f e0).1 (ar b f) ∧ bY w1 w' L S K L S K) := fun w1 hK q => by
   have hb := Below.drewN (Below.refl w1.heap.size w1) q
   have hk := hK.ab hb
   refine (ta hk.st.fl e0).mono ?_
   rintro e w' ⟨he, hf, ho⟩
   obtain ⟨x1, x2⟩ := hk.flash hf ho (m0 f e0)
   exact ⟨he, x1, (bY.ak hb).trans x2⟩
  obtain ⟨F2, IB⟩ := ex (aT f e0).1
  obtain ⟨n, hn⟩ := ex l.length
  obtain ⟨W9, SF⟩ := ex (bO { b with erase := l })
  have kZ := iD SF
  have pF : Hid (aK b f = if (aT f e0).2 ≠ 0 then ({ ar b f with af := true }, F2, false, 20) else ({ ar b f with erase := l }, F2, !W9, 0)) := by
   unfold aK
   rw [Hid, iN cQ, he, ← IB, ← SF]
  rw [IB] at nn
  rw [hn] at pt HQ Oz
  unfold maxLen at Qx
  clear h ho cQ jH hq AY hv he IB hgn SF
  by_cases hc : (aT f e0).2 = 0
  ·have HB : Hid (aK b f = ({ ar b f with erase := l }, F2, !W9, 0)) := by rw [Hid, pF, iN (by rw [hc]; decide)]
   rw [hc, bG] at nn
   clear hc
   by_cases mB : cap = 1
   ·have xu : n = 0 := oM
    rw [iP mB] at HQ
    subst mB
    subst xu
    go_enter func53, ntmps53
    go_wp2_with (fail)
    refine HR.mono ?_
    rintro e w1 ⟨rfl, hK, hX⟩
    have HK := iD hK
    have HX := iD hX
    clear hK hX
    have rS := (pt _ _ _ HK xB).2.1
    have c0 := (pt _ _ _ HK xB).1
    have cg := (pt _ _ _ HK xB).2.2
    have MW := iD (nn _ HK)
    have iJ : Hid (∀ q, (w1.drewN q).cell? ⟨K.D, 0, none⟩ = some (.pointer (some ⟨L.d, 0, none⟩)) ∧ (w1.drewN q).cell? ⟨K.D, 11, none⟩ = some (.slice (some ⟨g, off, none⟩) 1 1) ∧ (w1.drewN q).cell? ⟨g, off, none⟩ = some (.int .i64 e0)) := fun q => pt _ _ _ (HK.ab (Below.drewN bV q)) xB
    go_wp2_with (fail)
    go_region_held3 (fun w9 => w9.cell? ⟨K.D, 0, none⟩ = some (.pointer (some ⟨L.d, 0, none⟩)) ∧ w9.cell? ⟨K.D, 11, none⟩ = some (.slice (some ⟨g, off, none⟩) 1 1) ∧ w9.cell? ⟨g, off, none⟩ = some (.int .i64 e0)) (first | exact iJ _ | exact pt _ _ _ nU xB | go_keep) (first
     | (go_at_call 60; refine (MW _).mono ?_; rintro e wa ⟨rfl, nU, Cw⟩)
     | fail)
    all_goals
     have d11 := (pt _ _ _ nU xB).2.1
     have Kd := nU.fz 11
     have HC := iD (nU.cell 11 (.slice (some ⟨g, off, none⟩) 0 0) { K with v := (.slice (some ⟨g, off, none⟩) 0 0) } { ar b f with erase := l } rfl rfl rfl (HQ _ _ _ nU xB) (fun x hx => by
      have e : g = x := by injection hx
      subst e
      exact HGN) nU.dt)
     have Yw : Hid (bY w (wa.setCell ⟨K.D, 11, none⟩ (.slice (some ⟨g, off, none⟩) 0 0)) L S K L S { K with v := (.slice (some ⟨g, off, none⟩) 0 0) }) := (bY.dh HX).trans (Cw.trans (bY.mT HC.2 (K' := { K with v := (.slice (some ⟨g, off, none⟩) 0 0) }) rfl (fun x _ hx => by
      have e : g = x := by injection hx
      subst e
      rw [jY]
      rfl)))
     have GO := iD HC.1
     have Db : Hid (∀ d, ({ ar b f with erase := l } : Bk).data = some d → d ≠ []) := tr
     have AF : Hid (bO { ar b f with erase := l } = W9) := kZ
     clear nU Cw rS c0 cg
     go_wp2_with (fail)
     refine (dF GO Db).mono ?_
     rintro e w9 ⟨rfl, rfl⟩
     rw [AF]
     go_wp2
     go_ret2
     rw [HB]
     exact ⟨rfl, .mk' Yw GO⟩
   rw [iN mB] at HQ
   have sT : 2 ≤ cap := oM
   have hc3 : (1 : Int) ≤ (cap : Int) := oM
   have hc4 : ¬ (cap : Int) = 1 := oM
   obtain ⟨M, hM⟩ := ex (n + 1)
   rw [hM] at pt Oz
   go_enter func53, ntmps53
   go_wp2_with (fail)
   refine HR.mono ?_
   rintro e w1 ⟨rfl, hK, hX⟩
   have HK := iD hK
   have HX := iD hX
   clear hK hX
   have rS := (pt _ _ _ HK xB).2.1
   have c0 := (pt _ _ _ HK xB).1
   have cg := (pt _ _ _ HK xB).2.2
   have MW := iD (nn _ HK)
   have iJ : Hid (∀ q, (w1.drewN q).cell? ⟨K.D, 0, none⟩ = some (.pointer (some ⟨L.d, 0, none⟩)) ∧ (w1.drewN q).cell? ⟨K.D, 11, none⟩ = some (.slice (some ⟨g, off, none⟩) M cap) ∧ (w1.drewN q).cell? ⟨g, off, none⟩ = some (.int .i64 e0)) := fun q => pt _ _ _ (HK.ab (Below.drewN bV q)) xB
   go_wp2_with (fail)
   go_region_held3 (fun w9 => w9.cell? ⟨K.D, 0, none⟩ = some (.pointer (some ⟨L.d, 0, none⟩)) ∧ w9.cell? ⟨K.D, 11, none⟩ = some (.slice (some ⟨g, off, none⟩) M cap) ∧ w9.cell? ⟨g, off, none⟩ = some (.int .i64 e0)) (first | exact iJ _ | exact pt _ _ _ nU xB | go_keep) (first
    | (go_at_call 60; refine (MW _).mono ?_; rintro e wa ⟨rfl, nU, Cw⟩)
    | fail)
   all_goals
    have Ad : M - 1 = n := oM
    have xP : 1 ≤ M := oM
    have d11 := (pt _ _ _ nU xB).2.1
    have Kd := nU.fz 11
    have HC := iD (nU.cell 11 (.slice (some ⟨g, off + 1, none⟩) n (cap - 1)) { K with v := (.slice (some ⟨g, off + 1, none⟩) n (cap - 1)) } { ar b f with erase := l } rfl rfl rfl (HQ _ _ _ nU xB) (fun x hx => by
     have e : g = x := by injection hx
     subst e
     exact HGN) nU.dt)
    have Yw : Hid (bY w (wa.setCell ⟨K.D, 11, none⟩ (.slice (some ⟨g, off + 1, none⟩) n (cap - 1))) L S K L S { K with v := (.slice (some ⟨g, off + 1, none⟩) n (cap - 1)) }) := (bY.dh HX).trans (Cw.trans (bY.mT HC.2 (K' := { K with v := (.slice (some ⟨g, off + 1, none⟩) n (cap - 1)) }) rfl (fun x _ hx => by
     have e : g = x := by injection hx
     subst e
     rw [jY]
     rfl)))
    have GO := iD HC.1
    have Db : Hid (∀ d, ({ ar b f with erase := l } : Bk).data = some d → d ≠ []) := tr
    have AF : Hid (bO { ar b f with erase := l } = W9) := kZ
    clear nU Cw rS c0 cg
    go_wp2_with (fail)
    refine (dF GO Db).mono ?_
    rintro e w9 ⟨rfl, rfl⟩
    rw [AF]
    go_wp2
    go_ret2
    rw [HB]
    exact ⟨rfl, .mk' Yw GO⟩
  have HB : Hid (aK b f = ({ ar b f with af := true }, F2, false, 20)) := by rw [Hid, pF, iP hc]
  rw [dJ hc] at nn
  clear hc
  obtain ⟨M, hM⟩ := ex (n + 1)
  rw [hM] at pt Oz
  have xP : 1 ≤ M := oM
  go_enter func53, ntmps53
  go_wp2_with (fail)
  refine HR.mono ?_
  rintro e w1 ⟨rfl, hK, hX⟩
  have HK := iD hK
  have HX := iD hX
  clear hK hX
  have rS := (pt _ _ _ HK xB).2.1
  have c0 := (pt _ _ _ HK xB).1
  have cg := (pt _ _ _ HK xB).2.2
  have MW := iD (nn _ HK)
  have iJ : Hid (∀ q, (w1.drewN q).cell? ⟨K.D, 0, none⟩ = some (.pointer (some ⟨L.d, 0, none⟩)) ∧ (w1.drewN q).cell? ⟨K.D, 11, none⟩ = some (.slice (some ⟨g, off, none⟩) M cap) ∧ (w1.drewN q).cell? ⟨g, off, none⟩ = some (.int .i64 e0)) := fun q => pt _ _ _ (HK.ab (Below.drewN bV q)) xB
  go_wp2_with (fail)
  go_region_held3 (fun w9 => w9.cell? ⟨K.D, 0, none⟩ = some (.pointer (some ⟨L.d, 0, none⟩)) ∧ w9.cell? ⟨K.D, 11, none⟩ = some (.slice (some ⟨g, off, none⟩) M cap) ∧ w9.cell? ⟨g, off, none⟩ = some (.int .i64 e0)) (first | exact iJ _ | exact pt _ _ _ nU xB | go_keep) (first
   | (go_at_call 60; refine (MW _).mono ?_; rintro e wa ⟨rfl, nU, Cw⟩)
   | fail)
  all_goals
   have fE := iD nU
   have nr : Hid (bY w wa L S K L S K) := (bY.dh HX).trans Cw
   clear nU Cw rS c0 cg
   go_wp2_with (fail)
   refine (oL fE).mono ?_
   rintro e w7 ⟨rfl, hK, hX⟩
   have Tw := iD hK
   have TN := iD (nr.trans (.dh hX))
   clear hK hX
   go_wp2
   go_ret2
   rw [HB]
   exact ⟨rfl, .mk' TN Tw⟩
 | nil =>
  obtain ⟨A9, c9, P9, -, -⟩ := h.er.form
  rw [he] at P9
  have jY : Hid (K.v = .slice A9 0 c9) := P9
  cases uU : b.data with
  | some d =>
   obtain ⟨Ct, Wh⟩ := ho.dt d uU
   have Sy : oz (eu L S) w K (some d) := by have := h.dt; rw [uU] at this; exact this
   obtain ⟨ad, YW⟩ := oz.yo Sy (ho.ne d uU)
   have Y5 : K.n = 64 := by rw [← Sy.2.1]; exact Ct
   have iA : b.page < 1024 := ho.page
   have mz : Hid (∀ w1 : World, bo w0 w1 L S K f (ar b f) → ∀ q, Calls prog 62 #[.pointer (some ⟨L.d, 0, none⟩), .int .i64 b.page, .slice (some ad) 64 K.c] (w1.drewN q) fun e w' => e = .returned (fy (bz f b.page d).2) ∧ bo w0 w' L S K (bz f b.page d).1 (ar b f) ∧ bY w1 w' L S K L S K) := fun w1 hK q => by
    have hb := Below.drewN (Below.refl w1.heap.size w1) q
    have hk := hK.ab hb
    have vX : oz (eu L S) (w1.drewN q) K (some d) := by have := hk.dt; rw [show (ar b f).data = some d from uU] at this; exact this
    have Ww : gQ L (w1.drewN q) (some ad) (ag .u8 d) := by rw [← YW]; exact vX.1.apart (eu.fl L S)
    refine (nI hk.st.fl (b.page : Int) (some ad) 64 K.c d Ww Ct (by rw [← Y5]; exact vX.2.2.1) vX.2.2.2 Wh).mono ?_
    rintro e w' ⟨he, hf, ho⟩
    obtain ⟨x1, x2⟩ := hk.flash hf ho (nJ f _ _)
    exact ⟨he, x1, (bY.ak hb).trans x2⟩
   have pt : Hid (∀ (W : World) (f' : Fl), bo w0 W L S K f' (ar b f) → W.cell? ⟨K.D, 0, none⟩ = some (.pointer (some ⟨L.d, 0, none⟩)) ∧ W.cell? ⟨K.D, 12, none⟩ = some (.int .i64 b.page) ∧ W.cell? ⟨K.D, 13, none⟩ = some (.slice (some ad) 64 K.c)) := fun W f' hK => by
    have h3 := hK.row 13 _ rfl
    rw [YW, Y5] at h3
    exact ⟨hK.row 0 _ rfl, hK.row 12 _ rfl, h3⟩
   have e1 := yI ad 64 K.c
   have xB : Hid ((ar b f).erase = []) := he
   have acB := iD he
   obtain ⟨F2, IB⟩ := ex (bz f b.page d).1
   obtain ⟨W9, SF⟩ := ex (bO { b with data := none })
   have kZ := iD SF
   have pF : Hid (aK b f = if (bz f b.page d).2 ≠ 0 then ({ ar b f with af := true }, F2, false, 20) else ({ ar b f with data := none }, F2, !W9, 0)) := by
    unfold aK
    rw [Hid, iN cQ, ← IB, ← SF, he, uU]
   have HAD : Hid (K.A = some ad ∧ K.n = 64) := ⟨YW, Y5⟩
   rw [IB] at mz
   clear h ho cQ jH P9 he uU Sy YW Y5 IB SF Ct Wh
   by_cases hc : (bz f b.page d).2 = 0
   ·have HB : Hid (aK b f = ({ ar b f with data := none }, F2, !W9, 0)) := by rw [Hid, pF, iN (by rw [hc]; decide)]
    rw [hc, bG] at mz
    clear hc
    go_enter func53, ntmps53
    go_wp2_with (fail)
    refine HR.mono ?_
    rintro e w1 ⟨rfl, hK, hX⟩
    have HK := iD hK
    have HX := iD hX
    clear hK hX
    have rS : w1.cell? ⟨K.D, 11, none⟩ = some (.slice A9 0 c9) := by rw [← jY]; exact HK.row 11 _ rfl
    obtain ⟨c0, Mk, Dy⟩ := pt _ _ HK
    have Tp := iD (mz _ HK)
    have iJ : Hid (∀ q, (w1.drewN q).cell? ⟨K.D, 0, none⟩ = some (.pointer (some ⟨L.d, 0, none⟩)) ∧ (w1.drewN q).cell? ⟨K.D, 12, none⟩ = some (.int .i64 b.page) ∧ (w1.drewN q).cell? ⟨K.D, 13, none⟩ = some (.slice (some ad) 64 K.c)) := fun q => pt _ _ (HK.ab (Below.drewN bV q))
    go_wp2_with (fail)
    go_region_held3 (fun w9 => w9.cell? ⟨K.D, 0, none⟩ = some (.pointer (some ⟨L.d, 0, none⟩)) ∧ w9.cell? ⟨K.D, 12, none⟩ = some (.int .i64 b.page) ∧ w9.cell? ⟨K.D, 13, none⟩ = some (.slice (some ad) 64 K.c)) (first | exact iJ _ | exact pt _ _ nU | go_keep) (first
     | (go_at_call 62; refine (Tp _).mono ?_; rintro e wa ⟨rfl, nU, Cw⟩)
     | fail)
    all_goals
     have d13 := (pt _ _ nU).2.2
     have Kb := nU.fz 13
     have HC := iD (nU.cell 13 (.slice none 0 0) { K with A := none, n := 0, c := 0 } { ar b f with data := none } rfl rfl rfl nU.er nU.en ⟨rfl, rfl, rfl⟩)
     have Yw : Hid (bY w (wa.setCell ⟨K.D, 13, none⟩ (.slice none 0 0)) L S K L S { K with A := none, n := 0, c := 0 }) := (bY.dh HX).trans (Cw.trans (bY.mT HC.2 (K' := { K with A := none, n := 0, c := 0 }) rfl (fun x _ hx => hx)))
     have GO := iD HC.1
     have Db : Hid (∀ d, ({ ar b f with data := none } : Bk).data = some d → d ≠ []) := fun d hd => by cases hd
     have AF : Hid (bO { ar b f with data := none } = W9) := kZ
     clear nU Cw rS c0 Mk Dy
     go_wp2_with (fail)
     refine (dF GO Db).mono ?_
     rintro e w9 ⟨rfl, rfl⟩
     rw [AF]
     go_wp2
     go_ret2
     rw [HB]
     exact ⟨rfl, .mk' Yw GO⟩
   have HB : Hid (aK b f = ({ ar b f with af := true }, F2, false, 20)) := by rw [Hid, pF, iP hc]
   rw [dJ hc] at mz
   clear hc
   go_enter func53, ntmps53
   go_wp2_with (fail)
   refine HR.mono ?_
   rintro e w1 ⟨rfl, hK, hX⟩
   have HK := iD hK
   have HX := iD hX
   clear hK hX
   have rS : w1.cell? ⟨K.D, 11, none⟩ = some (.slice A9 0 c9) := by rw [← jY]; exact HK.row 11 _ rfl
   obtain ⟨c0, Mk, Dy⟩ := pt _ _ HK
   have Tp := iD (mz _ HK)
   have iJ : Hid (∀ q, (w1.drewN q).cell? ⟨K.D, 0, none⟩ = some (.pointer (some ⟨L.d, 0, none⟩)) ∧ (w1.drewN q).cell? ⟨K.D, 12, none⟩ = some (.int .i64 b.page) ∧ (w1.drewN q).cell? ⟨K.D, 13, none⟩ = some (.slice (some ad) 64 K.c)) := fun q => pt _ _ (HK.ab (Below.drewN bV q))
   go_wp2_with (fail)
   go_region_held3 (fun w9 => w9.cell? ⟨K.D, 0, none⟩ = some (.pointer (some ⟨L.d, 0, none⟩)) ∧ w9.cell? ⟨K.D, 12, none⟩ = some (.int .i64 b.page) ∧ w9.cell? ⟨K.D, 13, none⟩ = some (.slice (some ad) 64 K.c)) (first | exact iJ _ | exact pt _ _ nU | go_keep) (first
    | (go_at_call 62; refine (Tp _).mono ?_; rintro e wa ⟨rfl, nU, Cw⟩)
    | fail)
   all_goals
    have fE := iD nU
    have nr : Hid (bY w wa L S K L S K) := (bY.dh HX).trans Cw
    clear nU Cw rS c0 Mk Dy
    go_wp2_with (fail)
    refine (oL fE).mono ?_
    rintro e w7 ⟨rfl, hK, hX⟩
    have Tw := iD hK
    have TN := iD (nr.trans (.dh hX))
    clear hK hX
    go_wp2
    go_ret2
    rw [HB]
    exact ⟨rfl, .mk' TN Tw⟩
  | none =>
   obtain ⟨a1, a2, a3⟩ : K.A = none ∧ K.n = 0 ∧ K.c = 0 := by have := h.dt; rw [uU] at this; exact this
   have e1 := yJ
   have pt : Hid (∀ W : World, bo w0 W L S K f (ar b f) → W.cell? ⟨K.D, 13, none⟩ = some (.slice none 0 0)) := fun W hK => by
    have h3 := hK.row 13 _ rfl
    rw [a1, a2, a3] at h3
    exact h3
   have Db : Hid (∀ d, (ar b f).data = some d → d ≠ []) := fun d hd => by rw [show (ar b f).data = none from uU] at hd; cases hd
   by_cases xM : b.bh = true
   ·have UJ := iD xM
    have HED : Hid (b.erase = [] ∧ b.data = none) := ⟨he, uU⟩
    obtain ⟨q, hq⟩ := ex (aI b.st f)
    have AI : Hid (∀ w1 : World, bo w0 w1 L S K f (ar b f) → Calls prog 92 #[.pointer (some ⟨S.D, 0, none⟩)] w1 (lL w0 w1 L S q)) := fun w1 hK => by
     have := By hK.st HO.ok
     rw [show aI (ar b f).st f = q from hq] at this
     exact this
    have pF : Hid (aK b f = if q.2.2.2 ≠ 0 then ({ ar b f with st := q.1, af := true }, q.2.1, false, 20) else ({ ar b f with st := q.1, bh := !q.2.2.1 }, q.2.1, q.2.2.1, 0)) := by
     unfold aK
     rw [Hid, iN cQ, he, uU]
     simp only [xM, iP, hq]
    obtain ⟨qs, qf, qd, qe⟩ := q
    simp only at pF
    clear h ho cQ jH P9 he uU hq a1 a2 a3
    by_cases hc : qe = 0
    ·have HB : Hid (aK b f = ({ ar b f with st := qs, bh := !qd }, qf, qd, 0)) := by rw [Hid, pF, iN (by rw [hc]; decide)]
     go_enter func53, ntmps53
     go_wp2_with (fail)
     refine HR.mono ?_
     rintro e w1 ⟨rfl, hK, hX⟩
     have HK := iD hK
     have HX := iD hX
     clear hK hX
     have rS : w1.cell? ⟨K.D, 11, none⟩ = some (.slice A9 0 c9) := by rw [← jY]; exact HK.row 11 _ rfl
     have Dy := pt _ HK
     have Mj : w1.cell? ⟨K.D, 14, none⟩ = some (.bool b.bh) := HK.row 14 _ rfl
     have c3 : w1.cell? ⟨K.D, 3, none⟩ = some (.pointer (some ⟨S.D, 0, none⟩)) := HK.row 3 _ rfl
     rw [UJ] at Mj
     have eW := iD (AI _ HK)
     unfold lL at eW
     simp only at eW
     rw [hc, bG] at eW
     clear hc
     go_wp2_with (fail)
     refine eW.mono ?_
     rintro e w6 ⟨rfl, ⟨S6, Bd, Bb, Gm⟩, oH⟩
     have ov := iD (HK.prog Gm Bd Bb oH)
     have M0 : Hid (bY w w6 L S K L S6 K) := (bY.dh HX).trans (bY.iQ oH Bd Bb)
     have d14 : w6.cell? ⟨K.D, 14, none⟩ = some (.bool b.bh) := ov.row 14 _ rfl
     have G3 := ov.fz 14
     have HC := iD (ov.jX 14 (.bool (!qd)) { ar b f with st := qs, bh := !qd } rfl rfl rfl rfl)
     have GO := iD HC.1
     have abo : Hid (∀ d, ({ ar b f with st := qs, bh := !qd } : Bk).data = some d → d ≠ []) := Db
     have AF : Hid (bO { ar b f with st := qs, bh := !qd } = !qd) := G5 b f qs qd HED.1 HED.2
     clear Bd Bb Gm oH rS Dy Mj c3
     go_wp2_with (fail)
     refine (dF GO abo).mono ?_
     rintro e w9 ⟨rfl, rfl⟩
     rw [AF]
     go_wp2
     go_ret2
     rw [HB]
     exact ⟨by simp [bG], .mk' (M0.trans (.dh HC.2)) GO⟩
    have HB : Hid (aK b f = ({ ar b f with st := qs, af := true }, qf, false, 20)) := by rw [Hid, pF, iP hc]
    go_enter func53, ntmps53
    go_wp2_with (fail)
    refine HR.mono ?_
    rintro e w1 ⟨rfl, hK, hX⟩
    have HK := iD hK
    have HX := iD hX
    clear hK hX
    have rS : w1.cell? ⟨K.D, 11, none⟩ = some (.slice A9 0 c9) := by rw [← jY]; exact HK.row 11 _ rfl
    have Dy := pt _ HK
    have Mj : w1.cell? ⟨K.D, 14, none⟩ = some (.bool b.bh) := HK.row 14 _ rfl
    have c3 : w1.cell? ⟨K.D, 3, none⟩ = some (.pointer (some ⟨S.D, 0, none⟩)) := HK.row 3 _ rfl
    rw [UJ] at Mj
    have eW := iD (AI _ HK)
    unfold lL at eW
    simp only at eW
    rw [dJ hc] at eW
    clear hc
    go_wp2_with (fail)
    refine eW.mono ?_
    rintro e w6 ⟨rfl, ⟨S6, Bd, Bb, Gm⟩, oH⟩
    have fE := iD (HK.prog Gm Bd Bb oH)
    have nr : Hid (bY w w6 L S K L S6 K) := (bY.dh HX).trans (bY.iQ oH Bd Bb)
    clear Bd Bb Gm oH rS Dy Mj c3
    go_wp2_with (fail)
    refine (oL fE).mono ?_
    rintro e w7 ⟨rfl, hK, hX⟩
    have Tw := iD hK
    have TN := iD (nr.trans (.dh hX))
    clear hK hX
    go_wp2
    go_ret2
    rw [HB]
    exact ⟨rfl, .mk' TN Tw⟩
   have YL : b.bh = false := by simpa using xM
   have UJ := iD YL
   have HB : Hid (aK b f = (ar b f, f, true, 0)) := by
    unfold aK
    rw [Hid, iN cQ, he, uU]
    simp only [YL]
    rfl
   have AF : Hid (bO (ar b f) = false) := by
    show (!b.erase.isEmpty || b.data.isSome || b.bh) = false
    rw [he, uU, YL]
    rfl
   clear h ho cQ jH P9 he uU a1 a2 a3 xM YL
   go_enter func53, ntmps53
   go_wp2_with (fail)
   refine HR.mono ?_
   rintro e w1 ⟨rfl, hK, hX⟩
   have HK := iD hK
   have HX := iD hX
   clear hK hX
   have rS : w1.cell? ⟨K.D, 11, none⟩ = some (.slice A9 0 c9) := by rw [← jY]; exact HK.row 11 _ rfl
   have Dy := pt _ HK
   have Mj : w1.cell? ⟨K.D, 14, none⟩ = some (.bool b.bh) := HK.row 14 _ rfl
   have c3 : w1.cell? ⟨K.D, 3, none⟩ = some (.pointer (some ⟨S.D, 0, none⟩)) := HK.row 3 _ rfl
   rw [UJ] at Mj
   clear c3
   go_wp2_with (fail)
   refine (dF HK Db).mono ?_
   rintro e w9 ⟨rfl, rfl⟩
   rw [AF]
   go_wp2
   go_ret2
   rw [HB]
   exact ⟨rfl, .mk' (.dh HX) HK⟩
end
end Go.Proofs.YtjdknddnanopaaaGreat
