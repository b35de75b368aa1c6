/-
  Part 20 of the proof.
-/
import Derived.Test.YtjdknddnanopaaaGreatR15
namespace Go.Proofs.YtjdknddnanopaaaGreat
open Go.RowKit Tryz
set_option maxRecDepth 100000
set_option maxHeartbeats 16000000
set_option linter.all false
variable {w : World} {P : Program} {ops : Array Oper} {o : Oper} {a : Act} {Y : Nat → Prop}
theorem vh {K : Act → World → Prop} {Q : Exit → Act → World → Prop} {E : Prop} 
 (oK : o.guard = none) (s xo : Operand) (t : TypeId) (ho : o.op = .call { callee := .builtin .append, args := #[s, xo], argTypes := #[t, t] })
 (B : Nat) (e : TypeId) (i : TypeInfo) (z : Value) (ht : P.underlying t = some (.slice e)) (hi : P.info? e = some i) (hz : i.zero = some z)
 (gK : i.size = 1) (tX : i.bytes = 8) (Ci : z.cells.size = 1)
 (v : Value) (q : List Int) (hs : a.eval s = v) (hq : QS w e B v q) (x : Int) (ad : Addr) (c : Nat) (Ur : a.eval xo = .slice (some ad) 1 c) (hx : w.cell? ad = some (.int .i64 x))
 (hl : q.length + 1 ≤ 1000000000) (hB : B ≤ w.heap.size)
 (h : ∀ v' w', QS w' e B v' (q ++ [x]) → w.grownBy w' v.ownBlock → (v'.ownBlock = v.ownBlock ∨ v'.ownBlock = some w.heap.size) → K (a.put o.dst v') w') :
 if Region.wanted o (yielded ops a.tmps) = true then Oper.wp P o a w K Q else E := by
 have hw : Region.wanted o (yielded ops a.tmps) = true := by simp [Region.wanted, oK]
 rw [iP hw]
 obtain ⟨v', w', nP, h2, h3, h4⟩ := pH (P := P) w B t o.type e i z ht hi hz gK tX Ci v q hq x ad c hx hl hB
 unfold Oper.wp execOp
 simp only [ho, resolve, invoke, builtin, Sem.run_bind, Sem.run_pure, Result.andThen_ok, List.map_toArray, List.map_cons, List.map_nil, hs, Ur, nP]
 exact h v' w' h2 h3 h4
theorem D1 {K : Act → World → Prop} {Q : Exit → Act → World → Prop} {E : Prop} {n : Nat} {al : List Value} (hg : o.guard = none) 
 (xl : List Operand) (JZ : Array TypeId) (ho : o.op = .call { callee := .value (.func n), args := xl.toArray, argTypes := JZ }) (hargs : xl.map a.eval = al) (vU : ∀ (args : Array Value) (w : World), (callFunc n args).run P w = .ok (.enter n args) w)
 (h : Calls P n al.toArray w fun e w' => ∃ v, e = .returned v ∧ K (a.put o.dst v) w') : if Region.wanted o (yielded ops a.tmps) = true then Oper.wp P o a w K Q else E := by
 have hw : Region.wanted o (yielded ops a.tmps) = true := by simp [Region.wanted, hg]
 rw [iP hw]
 have he : (execOp a.eval o).run P w = .ok (.enter n al.toArray) w := by
  obtain ⟨dst, op, ty, pos, after, guard⟩ := o
  simp only at ho
  subst ho
  rw [execOp_call_go, show (#[] ++ xl.toArray.map a.eval ++ #[] : Array Value) = al.toArray by rw [← hargs]; simp]
  exact vU _ _
 unfold Oper.wp
 rw [he, Oper.upon_enter]
 refine h.mono ?_
 rintro e w' ⟨v, rfl, h1⟩
 exact h1
theorem L3 (args : Array Value) (w : World) : (callFunc 86 args).run prog w = .ok (.enter 86 args) w := by
 go_simp
section
variable {w0 w w1 w' : World} {L L' : Lc} {S S' : Sc} {K K' : Kc} {f f' : Fl} {b b' : Bk} {s : St}
theorem bL.BA (h : bL w0 w L S f s) (hY : ∀ b, Y b → L.E b ∧ ¬ bS L S b) (ho : ah Y w w') (hb : bW w0 w') (E : Nat → Prop) (hE : ∀ b, E b → b < w'.heap.size) (hN : ∀ b, b < w.heap.size → E b → L.E b) (hL : ∀ b, L.E b → E b) : bL w0 w' { L with E := E } S f s := by
 have h' := h.aside hY ho hb
 have hX : ∀ b, b < w.heap.size → ea { L with E := E } S b → ea L S b := fun b aY hy => by
  rcases hy with h5 | he
  ·exact .inl h5
  exact .inr (hN b aY he)
 have hs : ∀ b, Y b → ea { L with E := E } S b := fun b hy => .inr (hL b (hY b hy).1)
 have sl : Jm (ea { L with E := E } S) w' S s := (h.sl.dS hX).ao ho hs
 have pk : cn (ea { L with E := E } S) w' L.Ap (ag .u8 f.az) := (h.pk.dS hX).ao ho hs
 exact ⟨h'.fl.tag E hE, h'.dd, h'.dl, h'.d1, h'.d2, h'.d3, h'.dg, h'.g1, h'.g2, h'.g3, h'.row, h'.fz, h'.sg, sl, pk⟩
theorem oC.KS {X : Nat → Prop} {w' : World} {K : Kc} {o : Option (List Int)} (h : oC X w K o) (k : ah Y w w') (hs : ∀ b, Y b → X b) : oC X w' K o := by
 cases o with
 | none => exact h
 | some d => exact ⟨h.1.ao k hs, h.2⟩
theorem bo.append (h0 : bo w0 w L S K f b) {W w8 : World} (hW : bW w W) {x : Int} {v' : Value} (hq : QS w8 3 w0.heap.size v' (b.erase ++ [x])) (hg : W.grownBy w8 K.v.ownBlock) (hv : v'.ownBlock = K.v.ownBlock ∨ v'.ownBlock = some W.heap.size) :
 nA w0 w L S K f { b with erase := b.erase ++ [x] } (w8.setCell ⟨K.D, 11, none⟩ v') := by
 have h := h0.ab hW
 have iH : ah (fun g => K.v.ownBlock = some g) W w8 := ⟨hg.size, fun k hk hn => hg.block k hk (fun e => hn e.symm)⟩
 have kG : bW w0 w8 := h.st.fl.below.grown hg h.st.fl.below.size (fun k hk => (h.er.lt hk).1)
 have YL : bL w0 w8 { L with E := fun g => L.E g ∨ v'.ownBlock = some g } S f b.st := by
  refine h.st.BA (fun g hg => ⟨(h.en g hg).2.2, (h.en g hg).1⟩) iH kG _ (fun g du => ?_) (fun g aY du => ?_) (fun g du => .inl du)
  ·rcases du with du | du
   ·exact Nat.lt_of_lt_of_le (h.st.fl.eb g du) iH.size
   exact (hq.lt du).2
  rcases du with du | du
  ·exact du
  rcases hv with hv | hv
  ·rw [hv] at du
   exact (h.en g du).2.2
  rw [hv] at du
  injection du with e
  omega
 have hnK : ¬ K.v.ownBlock = some K.D := fun e => (h.en _ e).2.1 rfl
 have hvn : ∀ g, v'.ownBlock = some g → ¬ bS L S g ∧ g ≠ K.D := fun g du => by
  rcases hv with hv | hv
  ·rw [hv] at du
   exact ⟨(h.en g du).1, (h.en g du).2.1⟩
  rw [hv] at du
  injection du with e
  subst e
  refine ⟨fun h5 => ?_, fun e => ?_⟩
  ·have := h.st.cY _ (.inl h5)
   omega
  have := h.lt
  omega
 have kU : ah (fun g => g = K.D) w8 (w8.setCell ⟨K.D, 11, none⟩ v') := .set w8 ⟨K.D, 11, none⟩ v' rfl
 have oL : bW w0 (w8.setCell ⟨K.D, 11, none⟩ v') := kG.setCell (p := ⟨K.D, 11, none⟩) h.dd _
 have Vr : ∀ j u, (K.cells L.d S.D b)[j]? = some u → w8.cell? ⟨K.D, j, none⟩ = some u := fun j u hu => (cell_of_block (iH.block _ h.lt hnK)).trans (h.row j u hu)
 refine ⟨{ L with E := fun g => L.E g ∨ v'.ownBlock = some g }, S, { K with v := v' }, ?_, ⟨YL.aside (Y := fun g => g = K.D) (fun g hg => by subst hg; exact ⟨.inl h.ed, h.nd⟩) kU oL, h.dd, h.nd, .inl h.ed, ?_, ?_, hq.block (fun g du => kU.block g (hq.lt du).2 (hvn g du).2), fun g du => ⟨(hvn g du).1, (hvn g du).2, .inr du⟩, ?_⟩⟩
 ·have YV : bZ W (w8.setCell ⟨K.D, 11, none⟩ v') L S K { L with E := fun g => L.E g ∨ v'.ownBlock = some g } S { K with v := v' } := by
   refine ⟨(iH.more (fun g hg => .inr (.inr hg))).trans (kU.more (fun g hg => .inr (.inl hg))), fun g aY du => ?_, fun g aY du => ?_, fun g du => .inl du, rfl, rfl, rfl, rfl⟩
   ·rcases du with du | du | du
    ·exact .inl du
    ·exact .inr (.inl du)
    rcases hv with hv | hv
    ·have vT : v'.ownBlock = some g := du
     rw [hv] at vT
     exact .inr (.inr vT)
    have vT : v'.ownBlock = some g := du
    rw [hv] at vT
    injection vT with e
    omega
   rcases du with du | du
   ·exact du
   rcases hv with hv | hv
   ·rw [hv] at du
    exact (h.en g du).2.2
   rw [hv] at du
   injection du with e
   omega
  exact (bZ.ak hW).trans YV
 ·intro i u hu
  have hc : Kc.cells { K with v := v' } L.d S.D { b with erase := b.erase ++ [x] } = (K.cells L.d S.D b).set 11 v' := rfl
  have ql : (Kc.cells { K with v := v' } L.d S.D { b with erase := b.erase ++ [x] })[i]? = some u := hu
  rw [hc, List.getElem?_set] at ql
  by_cases hij : 11 = i
  ·subst hij
   rw [iP rfl] at ql
   split at ql
   ·injection ql with jA
    subst jA
    exact World.cell?_setCell_same _ _ _ (Vr 11 _ rfl)
   cases ql
  rw [iN hij] at ql
  rw [World.cell?_setCell_other _ _ _ _ (by
   intro e
   injection e with _ e
   exact hij e)]
  exact Vr i u ql
 ·intro i
  rw [World.frozen?_setCell, cm (iH.block _ h.lt hnK)]
  exact h.fz i
 have hX : ∀ g, g < W.heap.size → ea { L with E := fun g => L.E g ∨ v'.ownBlock = some g } S g → ea L S g := fun g aY hy => by
  rcases hy with h5 | he | he
  ·exact .inl h5
  ·exact .inr he
  rcases hv with hv | hv
  ·rw [hv] at he
   exact .inr (h.en g he).2.2
  rw [hv] at he
  injection he with e
  omega
 exact ((h.dt.dS hX).KS iH (fun g hg => .inr (.inl (h.en g hg).2.2))).KS kU (fun g hg => .inr (.inl (by rw [hg]; exact h.ed)))
theorem vD (F : Nat → Int) (j : Nat) : (List.range (j + 1)).map F = (List.range j).map F ++ [F j] := by rw [List.range_succ, List.map_append]; rfl
theorem ET (h : bo w0 w L S K f b) (ho : bU f b) (v n : Int) (hn : dI n) : Calls prog 36 #[.pointer (some ⟨K.D, 0, none⟩), .int .i64 v, .int .i64 n] w (xq w0 w L S K f (cz b f v n)) := by
 have g1 := ne_nil
 have g2 := fT
 have HR := iD (ff h)
 have HO := iD (gZ ho)
 have h9 := ho.Um
 by_cases cO : (aq b f).af = true
 ·have HB : Hid (cz b f v n = (aq b f, 20)) := by unfold cz; rw [Hid, iP cO]
  rw [iP cO, dJ (by decide)] at HR
  clear h ho cO h9
  go_enter func36, ntmps36
  go_wp2_with (fail)
  refine HR.mono ?_
  rintro e w1 ⟨rfl, hK, hX⟩
  have HK := iD hK
  have HX := iD hX
  have c5 : w1.cell? ⟨K.D, 5, none⟩ = some (.int .i64 b.slot) := hK.row 5 _ rfl
  clear hK hX
  go_wp2
  go_ret
  rw [HB]
  exact ⟨rfl, .mk' (.dj HX) HK⟩
 have jF : (aq b f).af = false := by simpa using cO
 rw [iN cO, bG] at HR
 have HU := iD (fS jF)
 by_cases hs : b.slot = 2
 ·have HB : Hid (cz b f v n = (aq b f, 12)) := by unfold cz; rw [Hid, iN cO, iP (.inl hs)]
  clear h ho cO h9 jF
  go_enter func36, ntmps36
  go_wp2_with (fail)
  refine HR.mono ?_
  rintro e w1 ⟨rfl, hK, hX⟩
  have HK := iD hK
  have HX := iD hX
  have c5 : w1.cell? ⟨K.D, 5, none⟩ = some (.int .i64 b.slot) := hK.row 5 _ rfl
  clear hK hX
  rw [hs] at c5
  go_wp2
  go_ret
  rw [HB]
  exact ⟨rfl, .mk' (.dj HX) HK⟩
 obtain ⟨va, vt, vk, v0, l0, c0, v1, l1, c1, hv, b1, b2, b3, -⟩ := ho.vec
 have Ck : aV b 0 = (va : Int) := by unfold aV; rw [hv]; rfl
 have iG : aV b 1 = (vt : Int) := by unfold aV; rw [hv]; rfl
 have J1 : Hid (aV (aq b f) 0 = (va : Int)) := Ck
 have uW : Hid (aV (aq b f) 1 = (vt : Int)) := iG
 have jQ : Hid ((aq b f).st.aw.length = 9) := h9
 have tn : Hid (∀ d, (aq b f).data = some d → d ≠ []) := ho.ne
 have Sq : ¬ (b.slot : Int) = 2 := oM
 have hs5 : ((b.slot : Int) == 2) = false := by simpa using Sq
 by_cases ht : vt = 2
 case neg =>
  have HB : Hid (cz b f v n = (aq b f, 12)) := by unfold cz; rw [Hid, iN cO, iP (.inr (.inl (by rw [iG]; omega)))]
  have JN : ¬ (vt : Int) = 2 := oM
  have Ng : ((vt : Int) == 2) = false := by simpa using JN
  clear h ho cO h9 jF hs hv Ck iG ht
  go_enter func36, ntmps36
  go_wp2_with (fail)
  refine HR.mono ?_
  rintro e w1 ⟨rfl, hK, hX⟩
  have HK := iD hK
  have HX := iD hX
  have c5 : w1.cell? ⟨K.D, 5, none⟩ = some (.int .i64 b.slot) := hK.row 5 _ rfl
  clear hK hX
  go_wp2_with (fail)
  refine (cF HK HO.ok 1 1 rfl (by rw [jQ]; omega)).mono ?_
  rintro e w2 ⟨rfl, hB⟩
  rw [uW]
  have fI := iD (HK.ab hB)
  have nz : Hid (bZ w w2 L S K L S K) := (bZ.dj HX).trans (bZ.ak hB)
  have c6 : w2.cell? ⟨K.D, 6, none⟩ = some (.bool b.au) := fI.row 6 _ rfl
  clear hB c5
  go_wp2
  go_ret
  rw [HB]
  exact ⟨rfl, .mk' nz fI⟩
 subst ht
 by_cases gE : b.au = true
 ·have HB : Hid (cz b f v n = (aq b f, 12)) := by unfold cz; rw [Hid, iN cO, iP (.inr (.inr gE))]
  clear h ho cO h9 jF hs hv Ck iG
  go_enter func36, ntmps36
  go_wp2_with (fail)
  refine HR.mono ?_
  rintro e w1 ⟨rfl, hK, hX⟩
  have HK := iD hK
  have HX := iD hX
  have c5 : w1.cell? ⟨K.D, 5, none⟩ = some (.int .i64 b.slot) := hK.row 5 _ rfl
  clear hK hX
  go_wp2_with (fail)
  refine (cF HK HO.ok 1 1 rfl (by rw [jQ]; omega)).mono ?_
  rintro e w2 ⟨rfl, hB⟩
  rw [uW]
  have fI := iD (HK.ab hB)
  have nz : Hid (bZ w w2 L S K L S K) := (bZ.dj HX).trans (bZ.ak hB)
  have c6 : w2.cell? ⟨K.D, 6, none⟩ = some (.bool b.au) := fI.row 6 _ rfl
  clear hB c5
  rw [gE] at c6
  go_wp2
  go_ret
  rw [HB]
  exact ⟨rfl, .mk' nz fI⟩
 have gE : b.au = false := by simpa using gE
 have dX : ¬ (b.slot = 2 ∨ aV b 1 ≠ 2 ∨ b.au = true) := by rw [iG, gE]; simp; exact hs
 by_cases hw : bQ b = true
 ·have jP : Hid (bQ (aq b f) = true) := hw
  have HB : Hid (cz b f v n = (aq b f, 14)) := by unfold cz; rw [Hid, iN cO, iN dX, iP hw]
  clear h ho cO h9 jF hs hv Ck iG hw dX
  go_enter func36, ntmps36
  go_wp2_with (fail)
  refine HR.mono ?_
  rintro e w1 ⟨rfl, hK, hX⟩
  have HK := iD hK
  have HX := iD hX
  have c5 : w1.cell? ⟨K.D, 5, none⟩ = some (.int .i64 b.slot) := hK.row 5 _ rfl
  clear hK hX
  go_wp2_with (fail)
  refine (cF HK HO.ok 1 1 rfl (by rw [jQ]; omega)).mono ?_
  rintro e w2 ⟨rfl, hB⟩
  rw [uW]
  have fI := iD (HK.ab hB)
  have nz : Hid (bZ w w2 L S K L S K) := (bZ.dj HX).trans (bZ.ak hB)
  have c6 : w2.cell? ⟨K.D, 6, none⟩ = some (.bool b.au) := fI.row 6 _ rfl
  clear hB c5
  rw [gE] at c6
  go_wp2_with (fail)
  refine (dG fI tn).mono ?_
  rintro e w3 ⟨rfl, rfl⟩
  rw [jP]
  go_wp2
  go_ret
  rw [HB]
  exact ⟨rfl, .mk' nz fI⟩
 have xu : bQ b = false := by simpa using hw
 have jP : Hid (bQ (aq b f) = false) := xu
 have AI : Hid (∀ w2 : World, bo w0 w2 L S K f (aq b f) → ∀ q, Calls prog 59 #[.pointer (some ⟨L.d, 0, none⟩), .int .i64 b.aa] (w2.drewN q) fun e w' => e = .returned (.int .i64 (aM f b.aa : Nat)) ∧ w' = w2.drewN q) := fun w2 hK q => by
  have hB := Below.drewN (Below.refl w2.heap.size w2) q
  refine (oP (hK.ab hB).st.fl b.k ho.k8 (b.aa : Int) (by rw [← ho.bk])).mono ?_
  rintro e w' ⟨he, hw'⟩
  rw [← ho.bk] at he
  exact ⟨he, hw'.symm⟩
 have rN : Hid (∀ W, Calls prog 58 #[.int .i64 v, .int .i64 1, .int .i64 1073741824] W fun e w' => e = .returned (.bool (decide (1 ≤ v ∧ v ≤ 1073741824))) ∧ w' = W) := fun W => (l5 v 1 1073741824 W).mono (fun e w' hh => ⟨hh.1, hh.2.symm⟩)
 have oW : Hid (∀ W, Calls prog 58 #[.int .i64 n, .int .i64 1, .int .i64 (aM f b.aa : Nat)] W fun e w' => e = .returned (.bool (decide (1 ≤ n ∧ n ≤ (aM f b.aa : Nat)))) ∧ w' = W) := fun W => (l5 n 1 _ W).mono (fun e w' hh => ⟨hh.1, hh.2.symm⟩)
 have hsz : aM f b.aa ≤ 8192 := by rw [ho.bk]; exact ef h.st.fl.ok ho.k8
 have yg : Hid (cz b f v n = if ¬ (1 ≤ v ∧ v ≤ 1073741824) ∨ ¬ (1 ≤ n ∧ n ≤ (aM f b.aa : Nat)) then (aq b f, 3) else
  ({ aq b f with au := true, dst := 1 - va, version := v, length := n.toNat, cH := 0, erase := (List.range b.k).map fun i => ((cE b (1 - va) + i : Nat) : Int) }, 0)) := by
  unfold cz
  rw [Hid, iN cO, iN dX, iN hw, Ck, Int.toNat_natCast]
 obtain ⟨N, hN⟩ := ex (aM f b.aa)
 rw [hN] at AI oW hsz yg
 by_cases IB : 1 ≤ v ∧ v ≤ 1073741824
 case neg =>
  have HB : Hid (cz b f v n = (aq b f, 3)) := by rw [Hid, yg, iP (.inl IB)]
  rw [decide_eq_false IB] at rN
  clear h ho cO h9 jF hs hv Ck iG hw dX IB
  go_enter func36, ntmps36
  go_wp2_with (fail)
  refine HR.mono ?_
  rintro e w1 ⟨rfl, hK, hX⟩
  have HK := iD hK
  have HX := iD hX
  have c5 : w1.cell? ⟨K.D, 5, none⟩ = some (.int .i64 b.slot) := hK.row 5 _ rfl
  clear hK hX
  go_wp2_with (fail)
  refine (cF HK HO.ok 1 1 rfl (by rw [jQ]; omega)).mono ?_
  rintro e w2 ⟨rfl, hB⟩
  rw [uW]
  have fI := iD (HK.ab hB)
  have nz : Hid (bZ w w2 L S K L S K) := (bZ.dj HX).trans (bZ.ak hB)
  have c6 : w2.cell? ⟨K.D, 6, none⟩ = some (.bool b.au) := fI.row 6 _ rfl
  clear hB c5
  rw [gE] at c6
  go_wp2_with (fail)
  refine (dG fI tn).mono ?_
  rintro e w3 ⟨rfl, rfl⟩
  rw [jP]
  have c0 : w2.cell? ⟨K.D, 0, none⟩ = some (.pointer (some ⟨L.d, 0, none⟩)) := fI.row 0 _ rfl
  have c2 : w2.cell? ⟨K.D, 2, none⟩ = some (.int .i64 b.aa) := fI.row 2 _ rfl
  have px := iD (AI w2 fI)
  go_wp2_with (fail)
  go_quiet ((first | (go_at_call 58; with_reducible exact Calls.quiet_of_same (rN.out _)) | (go_at_call 58; with_reducible exact Calls.quiet_of_same (oW.out _)) | (go_at_call 59; with_reducible exact Calls.quiet_of_same (px.out _))))
  go_wp2
  go_ret
  rw [HB]
  exact ⟨rfl, .mk' (nz.trans (bZ.ak (Below.drewN bV _))) (fI.ab (Below.drewN bV _))⟩
 rw [decide_eq_true IB] at rN
 by_cases SR : 1 ≤ n ∧ n ≤ (N : Int)
 case neg =>
  have HB : Hid (cz b f v n = (aq b f, 3)) := by rw [Hid, yg, iP (.inr SR)]
  rw [decide_eq_false SR] at oW
  clear h ho cO h9 jF hs hv Ck iG hw dX IB SR
  go_enter func36, ntmps36
  go_wp2_with (fail)
  refine HR.mono ?_
  rintro e w1 ⟨rfl, hK, hX⟩
  have HK := iD hK
  have HX := iD hX
  have c5 : w1.cell? ⟨K.D, 5, none⟩ = some (.int .i64 b.slot) := hK.row 5 _ rfl
  clear hK hX
  go_wp2_with (fail)
  refine (cF HK HO.ok 1 1 rfl (by rw [jQ]; omega)).mono ?_
  rintro e w2 ⟨rfl, hB⟩
  rw [uW]
  have fI := iD (HK.ab hB)
  have nz : Hid (bZ w w2 L S K L S K) := (bZ.dj HX).trans (bZ.ak hB)
  have c6 : w2.cell? ⟨K.D, 6, none⟩ = some (.bool b.au) := fI.row 6 _ rfl
  clear hB c5
  rw [gE] at c6
  go_wp2_with (fail)
  refine (dG fI tn).mono ?_
  rintro e w3 ⟨rfl, rfl⟩
  rw [jP]
  have c0 : w2.cell? ⟨K.D, 0, none⟩ = some (.pointer (some ⟨L.d, 0, none⟩)) := fI.row 0 _ rfl
  have c2 : w2.cell? ⟨K.D, 2, none⟩ = some (.int .i64 b.aa) := fI.row 2 _ rfl
  have px := iD (AI w2 fI)
  go_wp2_with (fail)
  go_quiet ((first | (go_at_call 58; with_reducible exact Calls.quiet_of_same (rN.out _)) | (go_at_call 58; with_reducible exact Calls.quiet_of_same (oW.out _)) | (go_at_call 59; with_reducible exact Calls.quiet_of_same (px.out _))))
  go_wp2
  go_ret
  rw [HB]
  exact ⟨rfl, .mk' (nz.trans (bZ.ak (Below.drewN bV _))) (fI.ab (Below.drewN bV _))⟩
 rw [decide_eq_true SR] at oW
 obtain ⟨m, hm⟩ : ∃ m : Nat, n = m := ⟨n.toNat, oM⟩
 subst hm
 obtain ⟨t, Nf⟩ := ex (1 - va)
 have htd : (1 : Int) - (va : Int) = (t : Int) := oM
 have Ng : t ≤ 1 := oM
 have HB : Hid (cz b f v (m : Int) = ({ aq b f with au := true, dst := t, version := v, length := m, cH := 0, erase := (List.range b.k).map fun i => ((cE b t + i : Nat) : Int) }, 0)) := by
  rw [Hid, yg, iN (by rintro (e | e) <;> exact e (by assumption)), Nf, Int.toNat_natCast]
 have ny : Hid ((aq b f).erase = []) := by
  unfold bQ at xu
  simp only [Bool.or_eq_false_iff, Bool.not_eq_false', List.isEmpty_iff] at xu
  exact xu.1.1
 obtain ⟨kk, vR⟩ := ex b.k
 have Ww : b.aa = 2 * kk + 2 := by rw [← vR]; exact ho.bk
 have ux : kk ≤ 8 := by rw [← vR]; exact ho.k8
 rw [vR] at HB
 have pD : Hid (b.k = kk) := vR
 have Rz : Hid (b.first ≤ 64) := by have := ho.fw; have := h.st.fl.ok.b2; rw [Hid]; omega
 have uJ : Hid (b.aa = 2 * b.k + 2 ∧ b.k ≤ 8) := ⟨ho.bk, ho.k8⟩
 have ab5 : 1 ≤ kk := by rw [← vR]; exact ho.k1
 have q1 : ((b.aa : Int) - 2).tdiv 2 = (kk : Int) := by rw [Int.tdiv_eq_ediv_of_nonneg oM]; omega
 have q2 : ((b.aa : Int) - 2) / 2 = (kk : Int) := oM
 have iI : 4 ≤ b.aa := oM
 have acm : b.aa ≤ 18 := oM
 have SN : b.first + 2 + t * kk ≤ 82 := by
  have h1 := Rz.out
  have h2 := Nat.mul_le_mul Ng ux
  omega
 have nD : cE b t ≤ 82 := by unfold cE; rw [vR]; exact SN
 clear h ho cO h9 jF hs hv Ck iG hw dX xu Nf vR hN SN yg Ww
 go_enter func36, ntmps36
 go_wp2_with (fail)
 refine HR.mono ?_
 rintro e w1 ⟨rfl, hK, hX⟩
 have HK := iD hK
 have HX := iD hX
 have c5 : w1.cell? ⟨K.D, 5, none⟩ = some (.int .i64 b.slot) := hK.row 5 _ rfl
 clear hK hX
 go_wp2_with (fail)
 refine (cF HK HO.ok 1 1 rfl (by rw [jQ]; omega)).mono ?_
 rintro e w2 ⟨rfl, hB⟩
 rw [uW]
 have fI := iD (HK.ab hB)
 have nz : Hid (bZ w w2 L S K L S K) := (bZ.dj HX).trans (bZ.ak hB)
 have c6 : w2.cell? ⟨K.D, 6, none⟩ = some (.bool b.au) := fI.row 6 _ rfl
 clear hB c5
 rw [gE] at c6
 go_wp2_with (fail)
 refine (dG fI tn).mono ?_
 rintro e w3 ⟨rfl, rfl⟩
 rw [jP]
 have c0 : w2.cell? ⟨K.D, 0, none⟩ = some (.pointer (some ⟨L.d, 0, none⟩)) := fI.row 0 _ rfl
 have c2 : w2.cell? ⟨K.D, 2, none⟩ = some (.int .i64 b.aa) := fI.row 2 _ rfl
 have px := iD (AI w2 fI)
 go_wp2_with (fail)
 go_quiet ((first | (go_at_call 58; with_reducible exact Calls.quiet_of_same (rN.out _)) | (go_at_call 58; with_reducible exact Calls.quiet_of_same (oW.out _)) | (go_at_call 59; with_reducible exact Calls.quiet_of_same (px.out _))))
 obtain ⟨W3, mC⟩ := ex (w2.drewN nq)
 have pB : Hid (bo w0 W3 L S K f (aq b f)) := by rw [← mC]; exact fI.ab (Below.drewN bV _)
 have G7 : Hid (bZ w W3 L S K L S K) := by rw [← mC]; exact nz.trans (bZ.ak (Below.drewN bV _))
 rw [mC]
 clear mC c6 c0 c2
 go_wp2_with (fail)
 refine (cF pB HO.ok 0 0 rfl (by rw [jQ]; omega)).mono ?_
 rintro e w4 ⟨rfl, hB⟩
 rw [J1]
 have uX := iD (pB.ab hB)
 have JF : Hid (bZ w w4 L S K L S K) := G7.trans (bZ.ak hB)
 have uI := iD (uX.jX 6 (.bool true) { aq b f with au := true } rfl rfl rfl rfl)
 have G5 := iD (uI.1.jX 7 (.int .i64 t) { aq b f with au := true, dst := t } rfl rfl rfl rfl)
 have ye := iD (G5.1.jX 8 (.int .i64 v) { aq b f with au := true, dst := t, version := v } rfl rfl rfl rfl)
 have HC4 := iD (ye.1.jX 9 (.int .i64 m) { aq b f with au := true, dst := t, version := v, length := m } rfl rfl rfl rfl)
 have U9 := iD (HC4.1.jX 10 (.int .i64 0) { aq b f with au := true, dst := t, version := v, length := m, cH := 0 } rfl rfl rfl rfl)
 have z6 := uX.fz 6
 have z7 := uX.fz 7
 have z8 := uX.fz 8
 have z9 := uX.fz 9
 have AV := uX.fz 10
 have y6 : w4.cell? ⟨K.D, 6, none⟩ = some (.bool b.au) := uX.row 6 _ rfl
 have y7 : w4.cell? ⟨K.D, 7, none⟩ = some (.int .i64 b.dst) := uX.row 7 _ rfl
 have y8 : w4.cell? ⟨K.D, 8, none⟩ = some (.int .i64 b.version) := uX.row 8 _ rfl
 have y9 : w4.cell? ⟨K.D, 9, none⟩ = some (.int .i64 b.length) := uX.row 9 _ rfl
 have Qc : w4.cell? ⟨K.D, 10, none⟩ = some (.int .i64 b.cH) := uX.row 10 _ rfl
 have y2 : w4.cell? ⟨K.D, 2, none⟩ = some (.int .i64 b.aa) := uX.row 2 _ rfl
 clear hB
 go_wp2_with (fail)
 obtain ⟨W5, pM⟩ := ex (((((w4.setCell ⟨K.D, 6, none⟩ (.bool true)).setCell ⟨K.D, 7, none⟩ (.int .i64 t)).setCell ⟨K.D, 8, none⟩ (.int .i64 v)).setCell ⟨K.D, 9, none⟩ (.int .i64 m)).setCell ⟨K.D, 10, none⟩ (.int .i64 0))
 have HT5 : Hid (nA w0 w L S K f { aq b f with au := true, dst := t, version := v, length := m, cH := 0, erase := (List.range 0).map fun (i : Nat) => ((cE b t + i : Nat) : Int) } W5) := by
  rw [← pM]
  have := U9.out.1
  refine .mk' (JF.trans ((bZ.dj uI.2).trans ((bZ.dj G5.2).trans ((bZ.dj ye.2).trans ((bZ.dj HC4.2).trans (bZ.dj U9.2)))))) ?_
  have e : (aq b f).erase = (List.range 0).map fun (i : Nat) => ((cE b t + i : Nat) : Int) := ny
  rw [← e]
  exact U9.1
 rw [pM]
 clear pM z6 z7 z8 z9 AV y6 y7 y8 y9 Qc y2
 go_loopw [81] (fun i wr => ∃ j : Nat, j ≤ kk ∧ i = .int .i64 j ∧ nA w0 w L S K f { aq b f with au := true, dst := t, version := v, length := m, cH := 0, erase := (List.range j).map fun (i : Nat) => ((cE b t + i : Nat) : Int) } wr) (fun i _ => kk - (intOf i).toNat)
 case atStart => exact ⟨0, Nat.zero_le _, rfl, HT5⟩
 case round =>
  obtain ⟨j, hj, rfl, hT⟩ := hrel
  by_cases aY : j < kk
  ·obtain ⟨L1, S1, K1, hA, hK⟩ := hT
   have pA := iD hK
   have JE := iD hA
   have hd := hA.d
   have HD := iD hd
   have rZ : wr.cell? ⟨K.D, 11, none⟩ = some K1.v := by rw [← hd]; exact hK.row 11 _ rfl
   have c7 : wr.cell? ⟨K.D, 7, none⟩ = some (.int .i64 t) := by rw [← hd]; exact hK.row 7 _ rfl
   have Kb : wr.frozen? ⟨K.D, 11, none⟩ = false := by rw [← hd]; exact hK.fz 11
   have iO : Hid (∀ W, bW wr W → W.cell? ⟨K.D, 11, none⟩ = some K1.v ∧ W.cell? ⟨K.D, 7, none⟩ = some (.int .i64 t)) := fun W hB => by
    have h1 := (pA.ab hB).row 11 _ rfl
    have h2 := (pA.ab hB).row 7 _ rfl
    rw [HD] at h1 h2
    exact ⟨h1, h2⟩
   have T5 : Hid (∀ W, bW wr W → Calls prog 86 #[.pointer (some ⟨K.D, 0, none⟩), .int .i64 t] W fun e w' => e = .returned (.int .i64 (cE b t : Nat)) ∧ ∃ q, w' = W.drewN q) := fun W hB => by
    have := qu (pA.ab hB) uJ.1 uJ.2 Rz (t : Int) t rfl oM
    rw [HD] at this
    exact this
   have HQ : Hid (∀ W, bW wr W → QS W 3 w0.heap.size K1.v ((List.range j).map fun (i : Nat) => ((cE b t + i : Nat) : Int))) := fun W hB => (pA.ab hB).er
   have J8 : Hid (∀ W, bW wr W → w0.heap.size ≤ W.heap.size) := fun W hB => (pA.ab hB).st.fl.below.size
   have q3 : IntKind.i64.wrap (((cE b t : Nat) : Int) + (j : Int)) = ((cE b t + j : Nat) : Int) := by rw [IntWalk.i64_in _ oM]; push_cast; rfl
   have FL : Hid (((List.range j).map fun (i : Nat) => ((cE b t + i : Nat) : Int)).length + 1 ≤ 1000000000) := by rw [Hid, List.length_map, List.length_range]; omega
   obtain ⟨i3, vS, kB, jN, la⟩ := info_parts mr
   have G6 : Hid (∀ (q : Nat) (o : Obj), bW wr ((wr.drewN q).alloc o)) := fun q o => (Below.drewN (Below.refl wr.heap.size wr) q).alloc (by rw [E3]; exact Nat.le_refl _) o
   have HZG : Hid (∀ W w8 : World, bW wr W → W.grownBy w8 K1.v.ownBlock → w8.cell? ⟨K.D, 11, none⟩ = some K1.v ∧ w8.frozen? ⟨K.D, 11, none⟩ = false) := fun W w8 hB hg => by
    have hk := pA.ab hB
    have hb := hg.block K.D (by rw [← HD]; exact hk.lt) (fun e => (hk.en _ (by rw [HD]; exact e.symm)).2.1 rfl)
    have h1 := hk.row 11 _ rfl
    have h2 := hk.fz 11
    rw [HD] at h1 h2
    exact ⟨(cell_of_block hb).trans h1, (cm hb).trans h2⟩
   have HKG : Hid (∀ W w8 : World, bW wr W → W.grownBy w8 K1.v.ownBlock → w8.cell? ⟨K.D, 11, none⟩ = some K1.v ∧ w8.cell? ⟨K.D, 7, none⟩ = some (.int .i64 t)) := fun W w8 hB hg => by
    have hk := pA.ab hB
    have hb := hg.block K.D (by rw [← HD]; exact hk.lt) (fun e => (hk.en _ (by rw [HD]; exact e.symm)).2.1 rfl)
    have h1 := hk.row 11 _ rfl
    have h2 := hk.row 7 _ rfl
    rw [HD] at h1 h2
    exact ⟨(cell_of_block hb).trans h1, (cell_of_block hb).trans h2⟩
   have acG : ∀ q, (wr.drewN q).cell? ⟨K.D, 11, none⟩ = some K1.v := fun q => (iO _ (Below.drewN bV q)).1
   have acH : ∀ (q : Nat) (o : Obj), ((wr.drewN q).alloc o).cell? ⟨K.D, 11, none⟩ = some K1.v := fun q o => (iO _ (G6 q o)).1
   clear hA hK hd
   go_wp2_with (fail)
   go_region_law (first
    | (refine D1 (al := [.pointer (some ⟨K.D, 0, none⟩), .int .i64 t]) rfl _ _ rfl rfl L3 ?_; refine (T5 _ (by first | exact Below.refl _ _ | exact Below.drewN bV _ | exact Below.drew bV)).mono ?_; rintro e wp ⟨rfl, qb, rfl⟩; refine ⟨_, rfl, ?_⟩)
    | (refine vh rfl _ _ 33 rfl w0.heap.size 3 i3 (.int .i64 0) underlying33 vS kB jN la rfl K1.v _ rfl (HQ _ (by first | exact G6 _ _ | exact Below.refl _ _ | exact Below.drewN bV _ | exact Below.drew bV | exact Below.drew (Below.drewN bV _) | exact Below.drewN (Below.drew bV) _)) ((cE b t + j : Nat) : Int) _ 1 rfl (by first | exact bO _ _ _ 0 _ _ rfl rfl) FL (J8 _ (by first | exact G6 _ _ | exact Below.refl _ _ | exact Below.drewN bV _ | exact Below.drew bV | exact Below.drew (Below.drewN bV _) | exact Below.drewN (Below.drew bV) _)) ?_; intro v8 w8 hq8 GB Oo; obtain ⟨c8, z8⟩ := HZG _ _ (G6 _ _) GB; obtain ⟨-, c87⟩ := HKG _ _ (G6 _ _) GB; obtain ⟨A8, Ff, rfl, EI, EH⟩ := hq8.form))
   all_goals
    have HT9 : Hid (nA w0 w L S K f { aq b f with au := true, dst := t, version := v, length := m, cH := 0, erase := (List.range (j + 1)).map fun (i : Nat) => ((cE b t + i : Nat) : Int) } (w8.setCell ⟨K.D, 11, none⟩ (.slice A8 (j + 1) Ff))) := by
     have hlen : (((List.range j).map fun (i : Nat) => ((cE b t + i : Nat) : Int)) ++ [((cE b t + j : Nat) : Int)]).length = j + 1 := by simp
     have := pA.append (G6 _ _) hq8 GB Oo
     rw [hlen] at this
     rw [HD] at this
     rw [vD]
     exact nA.then JE this
    clear hq8 GB Oo
    go_wp2
    go_roundw
    case rel => exact ⟨j + 1, oM, by go_num, HT9⟩
    case measure => simp [intOf]; omega
  have No : j = kk := oM
  subst No
  have HT6 := iD hT
  clear hT
  go_wp2
  go_ret
  rw [HB]
  exact ⟨rfl, HT6⟩
end
section
variable {w0 w w1 w' : World} {L L' : Lc} {S S' : Sc} {K K' : Kc} {f f' : Fl} {b b' : Bk} {s : St}
theorem IV (h : bo w0 w L S K f b) (ho : bU f b) (A : Option Addr) (n c : Nat) (x : List Int) (hA : cn (pt L S K) w A (ag .u8 x)) (hn : x.length = n) (qm : n ≤ c) (fQ : c ≤ maxLen) : Calls prog 39 #[.pointer (some ⟨K.D, 0, none⟩), .slice A n c] w (xq w0 w L S K f (dH b f x)) := by
 have g1 := ne_nil
 have g2 := fT
 have HR := iD (ff h)
 have HO := iD (gZ ho)
 have tn : Hid (∀ d, (aq b f).data = some d → d ≠ []) := ho.ne
 have HA := iD hA
 unfold maxLen at fQ
 by_cases cO : (aq b f).af = true
 ·have HB : Hid (dH b f x = (aq b f, 20)) := by unfold dH; rw [Hid, iP cO]
  rw [iP cO, dJ (by decide)] at HR
  clear h ho cO hA hn
  go_enter func39, ntmps39
  go_wp2_with (fail)
  refine HR.mono ?_
  rintro e w1 ⟨rfl, hK, hX⟩
  have HK := iD hK
  have HX := iD hX
  have c6 : w1.cell? ⟨K.D, 6, none⟩ = some (.bool b.au) := hK.row 6 _ rfl
  have ua : w1.cell? ⟨K.D, 10, none⟩ = some (.int .i64 b.cH) := hK.row 10 _ rfl
  have c9 : w1.cell? ⟨K.D, 9, none⟩ = some (.int .i64 b.length) := hK.row 9 _ rfl
  clear hK hX
  go_wp2
  go_ret
  rw [HB]
  exact ⟨rfl, .mk' (.dj HX) HK⟩
 rw [iN cO, bG] at HR
 by_cases gE : b.au = false
 ·have HB : Hid (dH b f x = (aq b f, 12)) := by unfold dH; rw [Hid, iN cO, iP (.inl gE)]
  clear h ho cO hA hn
  go_enter func39, ntmps39
  go_wp2_with (fail)
  refine HR.mono ?_
  rintro e w1 ⟨rfl, hK, hX⟩
  have HK := iD hK
  have HX := iD hX
  have c6 : w1.cell? ⟨K.D, 6, none⟩ = some (.bool b.au) := hK.row 6 _ rfl
  have ua : w1.cell? ⟨K.D, 10, none⟩ = some (.int .i64 b.cH) := hK.row 10 _ rfl
  have c9 : w1.cell? ⟨K.D, 9, none⟩ = some (.int .i64 b.length) := hK.row 9 _ rfl
  clear hK hX
  rw [gE] at c6
  go_wp2_with (fail)
  go_quiet (fail)
  go_wp2
  go_ret
  rw [HB]
  exact ⟨rfl, .mk' ((bZ.dj HX).trans (bZ.ak (Below.drewN bV _))) (HK.ab (Below.drewN bV _))⟩
 have zR := gE
 have gE : b.au = true := by simpa using gE
 by_cases gU : b.cH = b.length
 ·have HB : Hid (dH b f x = (aq b f, 12)) := by unfold dH; rw [Hid, iN cO, iP (.inr gU)]
  clear h ho cO hA hn zR
  go_enter func39, ntmps39
  go_wp2_with (fail)
  refine HR.mono ?_
  rintro e w1 ⟨rfl, hK, hX⟩
  have HK := iD hK
  have HX := iD hX
  have c6 : w1.cell? ⟨K.D, 6, none⟩ = some (.bool b.au) := hK.row 6 _ rfl
  have ua : w1.cell? ⟨K.D, 10, none⟩ = some (.int .i64 b.cH) := hK.row 10 _ rfl
  have c9 : w1.cell? ⟨K.D, 9, none⟩ = some (.int .i64 b.length) := hK.row 9 _ rfl
  rw [gU] at ua
  clear hK hX gU
  rw [gE] at c6
  go_wp2_with (fail)
  go_quiet (fail)
  go_wp2
  go_ret
  rw [HB]
  exact ⟨rfl, .mk' ((bZ.dj HX).trans (bZ.ak (Below.drewN bV _))) (HK.ab (Below.drewN bV _))⟩
 have dX : ¬ (b.au = false ∨ b.cH = b.length) := fun e => by rcases e with e | e <;> contradiction
 have IA := ho.cH
 have Uz : b.length ≤ 8192 := Nat.le_trans ho.len (by rw [ho.bk]; exact ef h.st.fl.ok ho.k8)
 have Cx : ¬ (b.cH : Int) = (b.length : Int) := oM
 have Nr : ((b.cH : Int) == (b.length : Int)) = false := by simpa using Cx
 by_cases hw : bQ b = true
 ·have jP : Hid (bQ (aq b f) = true) := hw
  have HB : Hid (dH b f x = (aq b f, 14)) := by unfold dH; rw [Hid, iN cO, iN dX, iP hw]
  clear h ho cO hA hn zR dX hw
  go_enter func39, ntmps39
  go_wp2_with (fail)
  refine HR.mono ?_
  rintro e w1 ⟨rfl, hK, hX⟩
  have HK := iD hK
  have HX := iD hX
  have c6 : w1.cell? ⟨K.D, 6, none⟩ = some (.bool b.au) := hK.row 6 _ rfl
  have ua : w1.cell? ⟨K.D, 10, none⟩ = some (.int .i64 b.cH) := hK.row 10 _ rfl
  have c9 : w1.cell? ⟨K.D, 9, none⟩ = some (.int .i64 b.length) := hK.row 9 _ rfl
  clear hK hX
  rw [gE] at c6
  go_wp2_with (fail)
  go_quiet (fail)
  obtain ⟨W2, lX⟩ := ex (w1.drewN nq)
  have fI : Hid (bo w0 W2 L S K f (aq b f)) := by rw [← lX]; exact HK.ab (Below.drewN bV _)
  have nz : Hid (bZ w W2 L S K L S K) := by rw [← lX]; exact (bZ.dj HX).trans (bZ.ak (Below.drewN bV _))
  rw [lX]
  clear lX c6 c9 ua
  go_wp2_with (fail)
  refine (dG fI tn).mono ?_
  rintro e w3 ⟨rfl, rfl⟩
  rw [jP]
  have d9 : W2.cell? ⟨K.D, 9, none⟩ = some (.int .i64 b.length) := fI.row 9 _ rfl
  have d10 : W2.cell? ⟨K.D, 10, none⟩ = some (.int .i64 b.cH) := fI.row 10 _ rfl
  go_wp2
  go_ret
  rw [HB]
  exact ⟨rfl, .mk' nz fI⟩
 have xu : bQ b = false := by simpa using hw
 have jP : Hid (bQ (aq b f) = false) := xu
 obtain ⟨M, hM⟩ := ex (min 64 (b.length - b.cH))
 have SB : min (64 : Int) ((b.length : Int) - (b.cH : Int)) = (M : Int) := oM
 have Sn : IntKind.i64.wrap ((b.length : Int) - (b.cH : Int)) = (b.length : Int) - (b.cH : Int) := IntWalk.i64_in _ oM
 by_cases hxl : n = M
 case neg =>
  have HB : Hid (dH b f x = (aq b f, 11)) := by unfold dH; rw [Hid, iN cO, iN dX, iN hw, iP (by rw [hM, hn]; exact hxl)]
  have Ez : ¬ (n : Int) = (M : Int) := oM
  have yO : ((n : Int) == (M : Int)) = false := by simpa using Ez
  clear h ho cO hA hn zR dX hw xu hM hxl
  go_enter func39, ntmps39
  go_wp2_with (fail)
  refine HR.mono ?_
  rintro e w1 ⟨rfl, hK, hX⟩
  have HK := iD hK
  have HX := iD hX
  have c6 : w1.cell? ⟨K.D, 6, none⟩ = some (.bool b.au) := hK.row 6 _ rfl
  have ua : w1.cell? ⟨K.D, 10, none⟩ = some (.int .i64 b.cH) := hK.row 10 _ rfl
  have c9 : w1.cell? ⟨K.D, 9, none⟩ = some (.int .i64 b.length) := hK.row 9 _ rfl
  clear hK hX
  rw [gE] at c6
  go_wp2_with (fail)
  go_quiet (fail)
  obtain ⟨W2, lX⟩ := ex (w1.drewN nq)
  have fI : Hid (bo w0 W2 L S K f (aq b f)) := by rw [← lX]; exact HK.ab (Below.drewN bV _)
  have nz : Hid (bZ w W2 L S K L S K) := by rw [← lX]; exact (bZ.dj HX).trans (bZ.ak (Below.drewN bV _))
  rw [lX]
  clear lX c6 c9 ua
  go_wp2_with (fail)
  refine (dG fI tn).mono ?_
  rintro e w3 ⟨rfl, rfl⟩
  rw [jP]
  have d9 : W2.cell? ⟨K.D, 9, none⟩ = some (.int .i64 b.length) := fI.row 9 _ rfl
  have d10 : W2.cell? ⟨K.D, 10, none⟩ = some (.int .i64 b.cH) := fI.row 10 _ rfl
  go_wp2_with (fail)
  go_quiet (fail)
  go_wp2
  go_ret
  rw [HB]
  exact ⟨rfl, .mk' (nz.trans (bZ.ak (Below.drewN bV _))) (fI.ab (Below.drewN bV _))⟩
 subst hxl
 obtain ⟨D, hD⟩ := ex b.dst
 obtain ⟨B1, JV⟩ := ex (cE b D)
 obtain ⟨P, hP⟩ := ex f.pg
 have Te : D ≤ 1 := by rw [← hD]; exact ho.dst
 have lk : b.first ≤ 64 := by have := ho.fw; have := h.st.fl.ok.b2; omega
 have WT : B1 ≤ 82 := by
  rw [← JV]; unfold cE
  have := Nat.mul_le_mul Te ho.k8
  omega
 have aaM : P ≤ 16 := by rw [← hP]; exact h.st.fl.ok.p2
 have IJ : B1 * P ≤ 82 * 16 := Nat.mul_le_mul WT aaM
 obtain ⟨PG, hPG⟩ := ex (B1 * P + b.cH / 64)
 obtain ⟨BP, WS⟩ := ex (B1 * P)
 obtain ⟨Q, hQ⟩ := ex (b.cH / 64)
 have ab1 : ((B1 : Int) * (P : Int)) = (BP : Int) := by rw [← WS]; push_cast; rfl
 have q0 : IntKind.i64.wrap (BP : Int) = (BP : Int) := IntWalk.i64_in _ oM
 have q2 : ((b.cH : Nat) : Int).tdiv 64 = (Q : Int) := by rw [Int.tdiv_eq_ediv_of_nonneg oM]; omega
 have q2' : ((b.cH : Nat) : Int) / 64 = (Q : Int) := oM
 have q2w : IntKind.i64.wrap (Q : Int) = (Q : Int) := IntWalk.i64_in _ oM
 have q3 : (BP : Int) + (Q : Int) = (PG : Int) := oM
 have q4 : IntKind.i64.wrap (PG : Int) = (PG : Int) := IntWalk.i64_in _ oM
 have HB : Hid (dH b f x = ({ aq b f with page := PG, data := some (gd x), cH := b.cH + n }, 0)) := by
  unfold dH; rw [Hid, iN cO, iN dX, iN hw, iN (by rw [hM, hn]; simp), hn, hD, JV, hP, hPG]
 have zX : n ≤ 64 := oM
 have hfn : b.cH + n ≤ 8192 := oM
 have Rz : Hid (b.first ≤ 64) := lk
 have uJ : Hid (b.aa = 2 * b.k + 2 ∧ b.k ≤ 8) := ⟨ho.bk, ho.k8⟩
 have NA := iD hD
 have uh := iD JV
 have HPP := iD hP
 have HN := iD hn
 clear h ho cO hA hn zR dX hw xu hM hD JV hP hPG lk IJ WS hQ
 go_enter func39, ntmps39
 go_wp2_with (fail)
 refine HR.mono ?_
 rintro e w1 ⟨rfl, hK, hX⟩
 have HK := iD hK
 have HX := iD hX
 have c6 : w1.cell? ⟨K.D, 6, none⟩ = some (.bool b.au) := hK.row 6 _ rfl
 have ua : w1.cell? ⟨K.D, 10, none⟩ = some (.int .i64 b.cH) := hK.row 10 _ rfl
 have c9 : w1.cell? ⟨K.D, 9, none⟩ = some (.int .i64 b.length) := hK.row 9 _ rfl
 clear hK hX
 rw [gE] at c6
 go_wp2_with (fail)
 go_quiet (fail)
 obtain ⟨W2, lX⟩ := ex (w1.drewN nq)
 have fI : Hid (bo w0 W2 L S K f (aq b f)) := by rw [← lX]; exact HK.ab (Below.drewN bV _)
 have nz : Hid (bZ w W2 L S K L S K) := by rw [← lX]; exact (bZ.dj HX).trans (bZ.ak (Below.drewN bV _))
 rw [lX]
 clear lX c6 c9 ua
 go_wp2_with (fail)
 refine (dG fI tn).mono ?_
 rintro e w3 ⟨rfl, rfl⟩
 rw [jP]
 have d9 : W2.cell? ⟨K.D, 9, none⟩ = some (.int .i64 b.length) := fI.row 9 _ rfl
 have d10 : W2.cell? ⟨K.D, 10, none⟩ = some (.int .i64 b.cH) := fI.row 10 _ rfl
 go_wp2_with (fail)
 go_quiet (fail)
 obtain ⟨W3, mC⟩ := ex (W2.drewN nq)
 have pB : Hid (bo w0 W3 L S K f (aq b f)) := by rw [← mC]; exact fI.ab (Below.drewN bV _)
 have G7 : Hid (bZ w W3 L S K L S K) := by rw [← mC]; exact nz.trans (bZ.ak (Below.drewN bV _))
 rw [mC]
 clear mC d9 d10
 have iO : Hid (∀ W, bW W3 W → W.cell? ⟨K.D, 7, none⟩ = some (.int .i64 D) ∧ W.cell? ⟨K.D, 0, none⟩ = some (.pointer (some ⟨L.d, 0, none⟩)) ∧ W.cell? ⟨K.D, 10, none⟩ = some (.int .i64 b.cH)) := fun W hB => by
  have h1 := (pB.ab hB).row 7 _ rfl
  rw [show (aq b f).dst = D from NA] at h1
  exact ⟨h1, (pB.ab hB).row 0 _ rfl, (pB.ab hB).row 10 _ rfl⟩
 have Ry : Hid (∀ (q : Nat) (u : Value), ((W3.drewN q).setCell ⟨K.D, 12, none⟩ u).cell? ⟨K.D, 7, none⟩ = some (.int .i64 D) ∧ ((W3.drewN q).setCell ⟨K.D, 12, none⟩ u).cell? ⟨K.D, 0, none⟩ = some (.pointer (some ⟨L.d, 0, none⟩)) ∧ ((W3.drewN q).setCell ⟨K.D, 12, none⟩ u).cell? ⟨K.D, 10, none⟩ = some (.int .i64 b.cH)) := fun q u => by
  obtain ⟨h1, h2, h3⟩ := iO _ (Below.drewN (Below.refl W3.heap.size W3) q)
  exact ⟨(World.cell?_setCell_other _ _ _ _ (by simp)).trans h1, (World.cell?_setCell_other _ _ _ _ (by simp)).trans h2, (World.cell?_setCell_other _ _ _ _ (by simp)).trans h3⟩
 obtain ⟨d7, d0, d10⟩ := iO _ bV
 have NK := pB.fz 12
 have d12 : W3.cell? ⟨K.D, 12, none⟩ = some (.int .i64 b.page) := pB.row 12 _ rfl
 have T5 : Hid (∀ W, bW W3 W → Calls prog 86 #[.pointer (some ⟨K.D, 0, none⟩), .int .i64 D] W fun e w' => e = .returned (.int .i64 B1) ∧ ∃ q, w' = W.drewN q) := fun W hB => by
  have := qu (pB.ab hB) uJ.1 uJ.2 Rz (D : Int) D rfl oM
  rw [show cE (aq b f) D = B1 from uh] at this
  exact this
 have FE : Hid (∀ W, bW W3 W → Calls prog 61 #[.pointer (some ⟨L.d, 0, none⟩)] W fun e w' => e = .returned (.int .i64 P) ∧ w' = W) := fun W hB => by
  have := ir (pB.ab hB).st.fl
  rw [HPP] at this
  exact this.mono (fun e w' hh => ⟨hh.1, hh.2.symm⟩)
 have abl : Hid (∀ q, Calls prog 63 #[.slice A n c] ((W3.drewN q).setCell ⟨K.D, 12, none⟩ (.int .i64 PG)) fun e w' => ∃ A' c', e = .returned (.slice A' 64 c') ∧ 64 ≤ c' ∧ c' ≤ maxLen ∧ bo w0 w' L S K f { aq b f with page := PG } ∧ bZ w w' L S K L S K ∧ cn (ea L S) w' A' (ag .u8 (gd x))) := fun q => by
  have hbq := Below.drewN (Below.refl W3.heap.size W3) q
  have hkq := pB.ab hbq
  obtain ⟨mv, rU⟩ := hkq.jX 12 (.int .i64 PG) { aq b f with page := PG } rfl rfl rfl rfl
  have qG : cn (pt L S K) ((W3.drewN q).setCell ⟨K.D, 12, none⟩ (.int .i64 PG)) A (ag .u8 x) := ((HA.ao G7.only).ao (ah.ak hbq)).ao rU (fun g hg => .inr (.inl hg))
  refine (Gi A n c x _ qG.rd HN zX).mono ?_
  rintro e w' ⟨A', c', he, ho, hb⟩
  obtain ⟨A2, c2, e2, h4, h5, -⟩ := a9 ho
  injection e2 with UO Zc Tn
  subst UO Tn
  refine ⟨A', c', he, h4, h5, mv.ab hb, G7.trans ((bZ.ak hbq).trans ((bZ.dj rU).trans (bZ.ak hb))), lA (by rw [aD]; exact eR (by rw [HN]; exact zX)) ho (fun g hg => mv.st.cY g hg)⟩
 go_wp2_with (fail)
 go_region_held3 (fun w9 => w9.cell? ⟨K.D, 7, none⟩ = some (.int .i64 D) ∧ w9.cell? ⟨K.D, 0, none⟩ = some (.pointer (some ⟨L.d, 0, none⟩)) ∧ w9.cell? ⟨K.D, 10, none⟩ = some (.int .i64 b.cH)) (first | exact iO _ (Below.drewN bV _) | exact Ry _ _ | exact iO _ (Below.drew (Below.drewN bV _)) | go_keep) (first
  | (go_at_call 86; refine (T5 _ (by first | exact Below.refl _ _ | exact Below.drewN bV _ | exact Below.drew bV)).mono ?_; rintro e wp ⟨rfl, qb, rfl⟩)
  | (go_at_call 61; refine (FE _ (by first | exact Below.refl _ _ | exact Below.drewN bV _ | exact Below.drew bV)).mono ?_; rintro e wp ⟨rfl, rfl⟩))
 all_goals
  clear d7 d0 d10 NK d12
  go_wp2_with (fail)
  refine (abl _).mono ?_
  rintro e w4 ⟨A4, c4, rfl, mv, rU, hK, hA, hR⟩
  have JF := iD hA
  have d13 : w4.cell? ⟨K.D, 13, none⟩ = some (.slice K.A K.n K.c) := hK.row 13 _ rfl
  have d10 : w4.cell? ⟨K.D, 10, none⟩ = some (.int .i64 b.cH) := hK.row 10 _ rfl
  have Ka := hK.fz 13
  have AV := hK.fz 10
  have uI := iD (hK.cell 13 (.slice A4 64 c4) { K with A := A4, n := 64, c := c4 } { aq b f with page := PG, data := some (gd x) } rfl rfl rfl hK.er hK.en ⟨hR, eR (by rw [HN]; exact zX), mv, rU⟩)
  have G5 := iD (uI.1.jX 10 (.int .i64 ((b.cH + n : Nat) : Int)) { aq b f with page := PG, data := some (gd x), cH := b.cH + n } rfl rfl rfl rfl)
  have q5 : (b.cH : Int) + (n : Int) = ((b.cH + n : Nat) : Int) := by push_cast; rfl
  have XM := iD q5
  rw [← q5] at G5
  clear hK hA hR q5
  go_wp2
  go_ret
  rw [HB]
  refine ⟨rfl, L, S, { K with A := A4, n := 64, c := c4 }, ?_, G5.1⟩
  exact JF.trans ((bZ.mV uI.2 (K' := { K with A := A4, n := 64, c := c4 }) rfl (fun g _ hg => hg)).trans (bZ.dj G5.2))
end
section
variable {w0 w w1 w' : World} {L L' : Lc} {S S' : Sc} {K K' : Kc} {f f' : Fl} {b b' : Bk} {s : St}
def Ty (w0 w : World) (L : Lc) (S : Sc) (K : Kc) (q : Bk × Fl × Bool × Int) (e : Ending) (w' : World) : Prop :=
 e = .returned (.tuple #[.bool q.2.2.1, fx q.2.2.2]) ∧ nA w0 w L S K q.2.1 q.1 w'
theorem bo.GJ (h : bo w0 w L S K f b) (hf : bB w0 w' L f') (ho : cA L w w') (hp : f'.az = f.az) : bo w0 w' L S K f' b ∧ bZ w w' L S K L S K :=
 ⟨h.prog (h.st.EP hf ho hp) rfl rfl (.ka ho (bS.fl L S)), bZ.iT (.ka ho (bS.fl L S)) rfl rfl⟩
theorem Hc (b : Bk) (f : Fl) (s : St) (d : Bool) (h1 : b.erase = []) (h2 : b.data = none) : bQ { aq b f with st := s, bh := !d } = !d := by
 show (!b.erase.isEmpty || b.data.isSome || !d) = !d
 rw [h1, h2]
 rfl
theorem IN (h : bo w0 w L S K f b) (ho : bU f b) : Calls prog 53 #[.pointer (some ⟨K.D, 0, none⟩)] w (Ty w0 w L S K (aK b f)) := by
 have g1 := ne_nil
 have g2 := fT
 have HR := iD (ff h)
 have HO := iD (gZ ho)
 by_cases cO : (aq b f).af = true
 ·have HB : Hid (aK b f = (aq b f, f, false, 20)) := by unfold aK; rw [Hid, iP cO]
  rw [iP cO, dJ (by decide)] at HR
  clear h ho cO
  go_enter func53, ntmps53
  go_wp2_with (fail)
  refine HR.mono ?_
  rintro e w1 ⟨rfl, hK, hX⟩
  have HK := iD hK
  have HX := iD hX
  clear hK hX
  go_wp2
  go_ret2
  rw [HB]
  exact ⟨rfl, .mk' (.dj HX) HK⟩
 have jF : (aq b f).af = false := by simpa using cO
 have HU := iD (fS jF)
 rw [iN cO, bG] at HR
 have tn : Hid (∀ d, (aq b f).data = some d → d ≠ []) := ho.ne
 cases he : b.erase with
 | cons e0 l =>
  have hq := h.er
  rw [he] at hq
  obtain ⟨g, off, cap, hv, OI, QP, -, A0⟩ := hq.front
  have hgn := h.en g (by rw [hv]; rfl)
  have jY := iD hv
  have pC : Hid (∀ (W : World) (f' : Fl) (b' : Bk), bo w0 W L S K f' b' → b'.erase = e0 :: l → W.cell? ⟨K.D, 0, none⟩ = some (.pointer (some ⟨L.d, 0, none⟩)) ∧ W.cell? ⟨K.D, 11, none⟩ = some (.slice (some ⟨g, off, none⟩) (l.length + 1) cap) ∧ W.cell? ⟨g, off, none⟩ = some (.int .i64 e0)) := fun W f' b' hK dO => by
   have h1 := hK.row 0 _ rfl
   have h2 := hK.row 11 _ rfl
   have h3 := hK.er
   rw [dO] at h3
   obtain ⟨g', uq, Ph, Ou, -, -, h4, -⟩ := h3.front
   rw [jY] at Ou h2
   injection Ou with e1 _ _
   injection e1 with e1
   injection e1 with e1 e2
   subst e1 e2
   exact ⟨h1, h2, h4⟩
  have HQ : Hid (∀ (W : World) (f' : Fl) (b' : Bk), bo w0 W L S K f' b' → b'.erase = e0 :: l → QS W 3 w0.heap.size (if cap = 1 then .slice (some ⟨g, off, none⟩) l.length 0 else .slice (some ⟨g, off + 1, none⟩) l.length (cap - 1)) l) := fun W f' b' hK dO => by
   have h3 := hK.er
   rw [dO] at h3
   obtain ⟨g', uq, Ph, Ou, -, -, -, h5⟩ := h3.front
   rw [jY] at Ou
   injection Ou with e1 _ e3
   injection e1 with e1
   injection e1 with e1 e2
   subst e1 e2 e3
   exact h5
  have xE : Hid ((aq b f).erase = e0 :: l) := he
  have HGN := iD hgn
  have ny : Hid (∀ w1 : World, bo w0 w1 L S K f (aq b f) → ∀ q, Calls prog 60 #[.pointer (some ⟨L.d, 0, none⟩), .int .i64 e0] (w1.drewN q) fun e w' => e = .returned (fx (aR f e0).2) ∧ bo w0 w' L S K (aR f e0).1 (aq b f) ∧ bZ w1 w' L S K L S K) := fun w1 hK q => by
   have hb := Below.drewN (Below.refl w1.heap.size w1) q
   have hk := hK.ab hb
   refine (sU hk.st.fl e0).mono ?_
   rintro e w' ⟨he, hf, ho⟩
   obtain ⟨x1, x2⟩ := hk.GJ hf ho (na f e0)
   exact ⟨he, x1, (bZ.ak hb).trans x2⟩
  obtain ⟨F2, IG⟩ := ex (aR f e0).1
  obtain ⟨n, hn⟩ := ex l.length
  obtain ⟨W9, S3⟩ := ex (bQ { b with erase := l })
  have kY := iD S3
  have pO : Hid (aK b f = if (aR f e0).2 ≠ 0 then ({ aq b f with af := true }, F2, false, 20) else ({ aq b f with erase := l }, F2, !W9, 0)) := by
   unfold aK
   rw [Hid, iN cO, he, ← IG, ← S3]
  rw [IG] at ny
  rw [hn] at pC HQ OI
  unfold maxLen at QP
  clear h ho cO jF hq A0 hv he IG hgn S3
  by_cases hc : (aR f e0).2 = 0
  ·have HB : Hid (aK b f = ({ aq b f with erase := l }, F2, !W9, 0)) := by rw [Hid, pO, iN (by rw [hc]; decide)]
   rw [hc, bG] at ny
   clear hc
   by_cases mv : cap = 1
   ·have xw : n = 0 := oM
    rw [iP mv] at HQ
    subst mv
    subst xw
    go_enter func53, ntmps53
    go_wp2_with (fail)
    refine HR.mono ?_
    rintro e w1 ⟨rfl, hK, hX⟩
    have HK := iD hK
    have HX := iD hX
    clear hK hX
    have rZ := (pC _ _ _ HK xE).2.1
    have c0 := (pC _ _ _ HK xE).1
    have cg := (pC _ _ _ HK xE).2.2
    have MY := iD (ny _ HK)
    have iO : Hid (∀ q, (w1.drewN q).cell? ⟨K.D, 0, none⟩ = some (.pointer (some ⟨L.d, 0, none⟩)) ∧ (w1.drewN q).cell? ⟨K.D, 11, none⟩ = some (.slice (some ⟨g, off, none⟩) 1 1) ∧ (w1.drewN q).cell? ⟨g, off, none⟩ = some (.int .i64 e0)) := fun q => pC _ _ _ (HK.ab (Below.drewN bV q)) xE
    go_wp2_with (fail)
    go_region_held3 (fun w9 => w9.cell? ⟨K.D, 0, none⟩ = some (.pointer (some ⟨L.d, 0, none⟩)) ∧ w9.cell? ⟨K.D, 11, none⟩ = some (.slice (some ⟨g, off, none⟩) 1 1) ∧ w9.cell? ⟨g, off, none⟩ = some (.int .i64 e0)) (first | exact iO _ | exact pC _ _ _ nW xE | go_keep) (first
     | (go_at_call 60; refine (MY _).mono ?_; rintro e wa ⟨rfl, nW, CC⟩)
     | fail)
    all_goals
     have d11 := (pC _ _ _ nW xE).2.1
     have Kb := nW.fz 11
     have HC := iD (nW.cell 11 (.slice (some ⟨g, off, none⟩) 0 0) { K with v := (.slice (some ⟨g, off, none⟩) 0 0) } { aq b f with erase := l } rfl rfl rfl (HQ _ _ _ nW xE) (fun x hx => by
      have e : g = x := by injection hx
      subst e
      exact HGN) nW.dt)
     have Yx : Hid (bZ w (wa.setCell ⟨K.D, 11, none⟩ (.slice (some ⟨g, off, none⟩) 0 0)) L S K L S { K with v := (.slice (some ⟨g, off, none⟩) 0 0) }) := (bZ.dj HX).trans (CC.trans (bZ.mV HC.2 (K' := { K with v := (.slice (some ⟨g, off, none⟩) 0 0) }) rfl (fun x _ hx => by
      have e : g = x := by injection hx
      subst e
      rw [jY]
      rfl)))
     have GV := iD HC.1
     have Dh : Hid (∀ d, ({ aq b f with erase := l } : Bk).data = some d → d ≠ []) := tn
     have AG : Hid (bQ { aq b f with erase := l } = W9) := kY
     clear nW CC rZ c0 cg
     go_wp2_with (fail)
     refine (dG GV Dh).mono ?_
     rintro e w9 ⟨rfl, rfl⟩
     rw [AG]
     go_wp2
     go_ret2
     rw [HB]
     exact ⟨rfl, .mk' Yx GV⟩
   rw [iN mv] at HQ
   have rU : 2 ≤ cap := oM
   have hc3 : (1 : Int) ≤ (cap : Int) := oM
   have hc4 : ¬ (cap : Int) = 1 := oM
   obtain ⟨M, hM⟩ := ex (n + 1)
   rw [hM] at pC OI
   go_enter func53, ntmps53
   go_wp2_with (fail)
   refine HR.mono ?_
   rintro e w1 ⟨rfl, hK, hX⟩
   have HK := iD hK
   have HX := iD hX
   clear hK hX
   have rZ := (pC _ _ _ HK xE).2.1
   have c0 := (pC _ _ _ HK xE).1
   have cg := (pC _ _ _ HK xE).2.2
   have MY := iD (ny _ HK)
   have iO : Hid (∀ q, (w1.drewN q).cell? ⟨K.D, 0, none⟩ = some (.pointer (some ⟨L.d, 0, none⟩)) ∧ (w1.drewN q).cell? ⟨K.D, 11, none⟩ = some (.slice (some ⟨g, off, none⟩) M cap) ∧ (w1.drewN q).cell? ⟨g, off, none⟩ = some (.int .i64 e0)) := fun q => pC _ _ _ (HK.ab (Below.drewN bV q)) xE
   go_wp2_with (fail)
   go_region_held3 (fun w9 => w9.cell? ⟨K.D, 0, none⟩ = some (.pointer (some ⟨L.d, 0, none⟩)) ∧ w9.cell? ⟨K.D, 11, none⟩ = some (.slice (some ⟨g, off, none⟩) M cap) ∧ w9.cell? ⟨g, off, none⟩ = some (.int .i64 e0)) (first | exact iO _ | exact pC _ _ _ nW xE | go_keep) (first
    | (go_at_call 60; refine (MY _).mono ?_; rintro e wa ⟨rfl, nW, CC⟩)
    | fail)
   all_goals
    have Ab : M - 1 = n := oM
    have CB : 1 ≤ M := oM
    have d11 := (pC _ _ _ nW xE).2.1
    have Kb := nW.fz 11
    have HC := iD (nW.cell 11 (.slice (some ⟨g, off + 1, none⟩) n (cap - 1)) { K with v := (.slice (some ⟨g, off + 1, none⟩) n (cap - 1)) } { aq b f with erase := l } rfl rfl rfl (HQ _ _ _ nW xE) (fun x hx => by
     have e : g = x := by injection hx
     subst e
     exact HGN) nW.dt)
    have Yx : Hid (bZ w (wa.setCell ⟨K.D, 11, none⟩ (.slice (some ⟨g, off + 1, none⟩) n (cap - 1))) L S K L S { K with v := (.slice (some ⟨g, off + 1, none⟩) n (cap - 1)) }) := (bZ.dj HX).trans (CC.trans (bZ.mV HC.2 (K' := { K with v := (.slice (some ⟨g, off + 1, none⟩) n (cap - 1)) }) rfl (fun x _ hx => by
     have e : g = x := by injection hx
     subst e
     rw [jY]
     rfl)))
    have GV := iD HC.1
    have Dh : Hid (∀ d, ({ aq b f with erase := l } : Bk).data = some d → d ≠ []) := tn
    have AG : Hid (bQ { aq b f with erase := l } = W9) := kY
    clear nW CC rZ c0 cg
    go_wp2_with (fail)
    refine (dG GV Dh).mono ?_
    rintro e w9 ⟨rfl, rfl⟩
    rw [AG]
    go_wp2
    go_ret2
    rw [HB]
    exact ⟨rfl, .mk' Yx GV⟩
  have HB : Hid (aK b f = ({ aq b f with af := true }, F2, false, 20)) := by rw [Hid, pO, iP hc]
  rw [dJ hc] at ny
  clear hc
  obtain ⟨M, hM⟩ := ex (n + 1)
  rw [hM] at pC OI
  have CB : 1 ≤ M := oM
  go_enter func53, ntmps53
  go_wp2_with (fail)
  refine HR.mono ?_
  rintro e w1 ⟨rfl, hK, hX⟩
  have HK := iD hK
  have HX := iD hX
  clear hK hX
  have rZ := (pC _ _ _ HK xE).2.1
  have c0 := (pC _ _ _ HK xE).1
  have cg := (pC _ _ _ HK xE).2.2
  have MY := iD (ny _ HK)
  have iO : Hid (∀ q, (w1.drewN q).cell? ⟨K.D, 0, none⟩ = some (.pointer (some ⟨L.d, 0, none⟩)) ∧ (w1.drewN q).cell? ⟨K.D, 11, none⟩ = some (.slice (some ⟨g, off, none⟩) M cap) ∧ (w1.drewN q).cell? ⟨g, off, none⟩ = some (.int .i64 e0)) := fun q => pC _ _ _ (HK.ab (Below.drewN bV q)) xE
  go_wp2_with (fail)
  go_region_held3 (fun w9 => w9.cell? ⟨K.D, 0, none⟩ = some (.pointer (some ⟨L.d, 0, none⟩)) ∧ w9.cell? ⟨K.D, 11, none⟩ = some (.slice (some ⟨g, off, none⟩) M cap) ∧ w9.cell? ⟨g, off, none⟩ = some (.int .i64 e0)) (first | exact iO _ | exact pC _ _ _ nW xE | go_keep) (first
   | (go_at_call 60; refine (MY _).mono ?_; rintro e wa ⟨rfl, nW, CC⟩)
   | fail)
  all_goals
   have fI := iD nW
   have nz : Hid (bZ w wa L S K L S K) := (bZ.dj HX).trans CC
   clear nW CC rZ c0 cg
   go_wp2_with (fail)
   refine (oQ fI).mono ?_
   rintro e w7 ⟨rfl, hK, hX⟩
   have TR := iD hK
   have T8 := iD (nz.trans (.dj hX))
   clear hK hX
   go_wp2
   go_ret2
   rw [HB]
   exact ⟨rfl, .mk' T8 TR⟩
 | nil =>
  obtain ⟨A9, c9, Qu, -, -⟩ := h.er.form
  rw [he] at Qu
  have jY : Hid (K.v = .slice A9 0 c9) := Qu
  cases uT : b.data with
  | some d =>
   obtain ⟨Cy, Wn⟩ := ho.dt d uT
   have SQ : oC (ea L S) w K (some d) := by have := h.dt; rw [uT] at this; exact this
   obtain ⟨ad, YY⟩ := oC.yq SQ (ho.ne d uT)
   have Y5 : K.n = 64 := by rw [← SQ.2.1]; exact Cy
   have iA : b.page < 1024 := ho.page
   have mA : Hid (∀ w1 : World, bo w0 w1 L S K f (aq b f) → ∀ q, Calls prog 62 #[.pointer (some ⟨L.d, 0, none⟩), .int .i64 b.page, .slice (some ad) 64 K.c] (w1.drewN q) fun e w' => e = .returned (fx (bz f b.page d).2) ∧ bo w0 w' L S K (bz f b.page d).1 (aq b f) ∧ bZ w1 w' L S K L S K) := fun w1 hK q => by
    have hb := Below.drewN (Below.refl w1.heap.size w1) q
    have hk := hK.ab hb
    have vV : oC (ea L S) (w1.drewN q) K (some d) := by have := hk.dt; rw [show (aq b f).data = some d from uT] at this; exact this
    have QU : gA L (w1.drewN q) (some ad) (ag .u8 d) := by rw [← YY]; exact vV.1.apart (ea.fl L S)
    refine (nJ hk.st.fl (b.page : Int) (some ad) 64 K.c d QU Cy (by rw [← Y5]; exact vV.2.2.1) vV.2.2.2 Wn).mono ?_
    rintro e w' ⟨he, hf, ho⟩
    obtain ⟨x1, x2⟩ := hk.GJ hf ho (nK f _ _)
    exact ⟨he, x1, (bZ.ak hb).trans x2⟩
   have pC : Hid (∀ (W : World) (f' : Fl), bo w0 W L S K f' (aq b f) → W.cell? ⟨K.D, 0, none⟩ = some (.pointer (some ⟨L.d, 0, none⟩)) ∧ W.cell? ⟨K.D, 12, none⟩ = some (.int .i64 b.page) ∧ W.cell? ⟨K.D, 13, none⟩ = some (.slice (some ad) 64 K.c)) := fun W f' hK => by
    have h3 := hK.row 13 _ rfl
    rw [YY, Y5] at h3
    exact ⟨hK.row 0 _ rfl, hK.row 12 _ rfl, h3⟩
   have e1 := yK ad 64 K.c
   have xE : Hid ((aq b f).erase = []) := he
   have acJ := iD he
   obtain ⟨F2, IG⟩ := ex (bz f b.page d).1
   obtain ⟨W9, S3⟩ := ex (bQ { b with data := none })
   have kY := iD S3
   have pO : Hid (aK b f = if (bz f b.page d).2 ≠ 0 then ({ aq b f with af := true }, F2, false, 20) else ({ aq b f with data := none }, F2, !W9, 0)) := by
    unfold aK
    rw [Hid, iN cO, ← IG, ← S3, he, uT]
   have HAD : Hid (K.A = some ad ∧ K.n = 64) := ⟨YY, Y5⟩
   rw [IG] at mA
   clear h ho cO jF Qu he uT SQ YY Y5 IG S3 Cy Wn
   by_cases hc : (bz f b.page d).2 = 0
   ·have HB : Hid (aK b f = ({ aq b f with data := none }, F2, !W9, 0)) := by rw [Hid, pO, iN (by rw [hc]; decide)]
    rw [hc, bG] at mA
    clear hc
    go_enter func53, ntmps53
    go_wp2_with (fail)
    refine HR.mono ?_
    rintro e w1 ⟨rfl, hK, hX⟩
    have HK := iD hK
    have HX := iD hX
    clear hK hX
    have rZ : w1.cell? ⟨K.D, 11, none⟩ = some (.slice A9 0 c9) := by rw [← jY]; exact HK.row 11 _ rfl
    obtain ⟨c0, Mm, DI⟩ := pC _ _ HK
    have TL := iD (mA _ HK)
    have iO : Hid (∀ q, (w1.drewN q).cell? ⟨K.D, 0, none⟩ = some (.pointer (some ⟨L.d, 0, none⟩)) ∧ (w1.drewN q).cell? ⟨K.D, 12, none⟩ = some (.int .i64 b.page) ∧ (w1.drewN q).cell? ⟨K.D, 13, none⟩ = some (.slice (some ad) 64 K.c)) := fun q => pC _ _ (HK.ab (Below.drewN bV q))
    go_wp2_with (fail)
    go_region_held3 (fun w9 => w9.cell? ⟨K.D, 0, none⟩ = some (.pointer (some ⟨L.d, 0, none⟩)) ∧ w9.cell? ⟨K.D, 12, none⟩ = some (.int .i64 b.page) ∧ w9.cell? ⟨K.D, 13, none⟩ = some (.slice (some ad) 64 K.c)) (first | exact iO _ | exact pC _ _ nW | go_keep) (first
     | (go_at_call 62; refine (TL _).mono ?_; rintro e wa ⟨rfl, nW, CC⟩)
     | fail)
    all_goals
     have d13 := (pC _ _ nW).2.2
     have Ka := nW.fz 13
     have HC := iD (nW.cell 13 (.slice none 0 0) { K with A := none, n := 0, c := 0 } { aq b f with data := none } rfl rfl rfl nW.er nW.en ⟨rfl, rfl, rfl⟩)
     have Yx : Hid (bZ w (wa.setCell ⟨K.D, 13, none⟩ (.slice none 0 0)) L S K L S { K with A := none, n := 0, c := 0 }) := (bZ.dj HX).trans (CC.trans (bZ.mV HC.2 (K' := { K with A := none, n := 0, c := 0 }) rfl (fun x _ hx => hx)))
     have GV := iD HC.1
     have Dh : Hid (∀ d, ({ aq b f with data := none } : Bk).data = some d → d ≠ []) := fun d hd => by cases hd
     have AG : Hid (bQ { aq b f with data := none } = W9) := kY
     clear nW CC rZ c0 Mm DI
     go_wp2_with (fail)
     refine (dG GV Dh).mono ?_
     rintro e w9 ⟨rfl, rfl⟩
     rw [AG]
     go_wp2
     go_ret2
     rw [HB]
     exact ⟨rfl, .mk' Yx GV⟩
   have HB : Hid (aK b f = ({ aq b f with af := true }, F2, false, 20)) := by rw [Hid, pO, iP hc]
   rw [dJ hc] at mA
   clear hc
   go_enter func53, ntmps53
   go_wp2_with (fail)
   refine HR.mono ?_
   rintro e w1 ⟨rfl, hK, hX⟩
   have HK := iD hK
   have HX := iD hX
   clear hK hX
   have rZ : w1.cell? ⟨K.D, 11, none⟩ = some (.slice A9 0 c9) := by rw [← jY]; exact HK.row 11 _ rfl
   obtain ⟨c0, Mm, DI⟩ := pC _ _ HK
   have TL := iD (mA _ HK)
   have iO : Hid (∀ q, (w1.drewN q).cell? ⟨K.D, 0, none⟩ = some (.pointer (some ⟨L.d, 0, none⟩)) ∧ (w1.drewN q).cell? ⟨K.D, 12, none⟩ = some (.int .i64 b.page) ∧ (w1.drewN q).cell? ⟨K.D, 13, none⟩ = some (.slice (some ad) 64 K.c)) := fun q => pC _ _ (HK.ab (Below.drewN bV q))
   go_wp2_with (fail)
   go_region_held3 (fun w9 => w9.cell? ⟨K.D, 0, none⟩ = some (.pointer (some ⟨L.d, 0, none⟩)) ∧ w9.cell? ⟨K.D, 12, none⟩ = some (.int .i64 b.page) ∧ w9.cell? ⟨K.D, 13, none⟩ = some (.slice (some ad) 64 K.c)) (first | exact iO _ | exact pC _ _ nW | go_keep) (first
    | (go_at_call 62; refine (TL _).mono ?_; rintro e wa ⟨rfl, nW, CC⟩)
    | fail)
   all_goals
    have fI := iD nW
    have nz : Hid (bZ w wa L S K L S K) := (bZ.dj HX).trans CC
    clear nW CC rZ c0 Mm DI
    go_wp2_with (fail)
    refine (oQ fI).mono ?_
    rintro e w7 ⟨rfl, hK, hX⟩
    have TR := iD hK
    have T8 := iD (nz.trans (.dj hX))
    clear hK hX
    go_wp2
    go_ret2
    rw [HB]
    exact ⟨rfl, .mk' T8 TR⟩
  | none =>
   obtain ⟨a1, a2, a3⟩ : K.A = none ∧ K.n = 0 ∧ K.c = 0 := by have := h.dt; rw [uT] at this; exact this
   have e1 := yL
   have pC : Hid (∀ W : World, bo w0 W L S K f (aq b f) → W.cell? ⟨K.D, 13, none⟩ = some (.slice none 0 0)) := fun W hK => by
    have h3 := hK.row 13 _ rfl
    rw [a1, a2, a3] at h3
    exact h3
   have Dh : Hid (∀ d, (aq b f).data = some d → d ≠ []) := fun d hd => by rw [show (aq b f).data = none from uT] at hd; cases hd
   by_cases xO : b.bh = true
   ·have UX := iD xO
    have HED : Hid (b.erase = [] ∧ b.data = none) := ⟨he, uT⟩
    obtain ⟨q, hq⟩ := ex (aI b.st f)
    have xC : Hid (∀ w1 : World, bo w0 w1 L S K f (aq b f) → Calls prog 92 #[.pointer (some ⟨S.D, 0, none⟩)] w1 (lL w0 w1 L S q)) := fun w1 hK => by
     have := BC hK.st HO.ok
     rw [show aI (aq b f).st f = q from hq] at this
     exact this
    have pO : Hid (aK b f = if q.2.2.2 ≠ 0 then ({ aq b f with st := q.1, af := true }, q.2.1, false, 20) else ({ aq b f with st := q.1, bh := !q.2.2.1 }, q.2.1, q.2.2.1, 0)) := by
     unfold aK
     rw [Hid, iN cO, he, uT]
     simp only [xO, iP, hq]
    obtain ⟨qs, qf, qd, qe⟩ := q
    simp only at pO
    clear h ho cO jF Qu he uT hq a1 a2 a3
    by_cases hc : qe = 0
    ·have HB : Hid (aK b f = ({ aq b f with st := qs, bh := !qd }, qf, qd, 0)) := by rw [Hid, pO, iN (by rw [hc]; decide)]
     go_enter func53, ntmps53
     go_wp2_with (fail)
     refine HR.mono ?_
     rintro e w1 ⟨rfl, hK, hX⟩
     have HK := iD hK
     have HX := iD hX
     clear hK hX
     have rZ : w1.cell? ⟨K.D, 11, none⟩ = some (.slice A9 0 c9) := by rw [← jY]; exact HK.row 11 _ rfl
     have DI := pC _ HK
     have Ml : w1.cell? ⟨K.D, 14, none⟩ = some (.bool b.bh) := HK.row 14 _ rfl
     have c3 : w1.cell? ⟨K.D, 3, none⟩ = some (.pointer (some ⟨S.D, 0, none⟩)) := HK.row 3 _ rfl
     rw [UX] at Ml
     have eX := iD (xC _ HK)
     unfold lL at eX
     simp only at eX
     rw [hc, bG] at eX
     clear hc
     go_wp2_with (fail)
     refine eX.mono ?_
     rintro e w6 ⟨rfl, ⟨S6, Bf, Bd, Gv⟩, oJ⟩
     have oz := iD (HK.prog Gv Bf Bd oJ)
     have M6 : Hid (bZ w w6 L S K L S6 K) := (bZ.dj HX).trans (bZ.iT oJ Bf Bd)
     have d14 : w6.cell? ⟨K.D, 14, none⟩ = some (.bool b.bh) := oz.row 14 _ rfl
     have Ha := oz.fz 14
     have HC := iD (oz.jX 14 (.bool (!qd)) { aq b f with st := qs, bh := !qd } rfl rfl rfl rfl)
     have GV := iD HC.1
     have abq : Hid (∀ d, ({ aq b f with st := qs, bh := !qd } : Bk).data = some d → d ≠ []) := Dh
     have AG : Hid (bQ { aq b f with st := qs, bh := !qd } = !qd) := Hc b f qs qd HED.1 HED.2
     clear Bf Bd Gv oJ rZ DI Ml c3
     go_wp2_with (fail)
     refine (dG GV abq).mono ?_
     rintro e w9 ⟨rfl, rfl⟩
     rw [AG]
     go_wp2
     go_ret2
     rw [HB]
     exact ⟨by simp [bG], .mk' (M6.trans (.dj HC.2)) GV⟩
    have HB : Hid (aK b f = ({ aq b f with st := qs, af := true }, qf, false, 20)) := by rw [Hid, pO, iP hc]
    go_enter func53, ntmps53
    go_wp2_with (fail)
    refine HR.mono ?_
    rintro e w1 ⟨rfl, hK, hX⟩
    have HK := iD hK
    have HX := iD hX
    clear hK hX
    have rZ : w1.cell? ⟨K.D, 11, none⟩ = some (.slice A9 0 c9) := by rw [← jY]; exact HK.row 11 _ rfl
    have DI := pC _ HK
    have Ml : w1.cell? ⟨K.D, 14, none⟩ = some (.bool b.bh) := HK.row 14 _ rfl
    have c3 : w1.cell? ⟨K.D, 3, none⟩ = some (.pointer (some ⟨S.D, 0, none⟩)) := HK.row 3 _ rfl
    rw [UX] at Ml
    have eX := iD (xC _ HK)
    unfold lL at eX
    simp only at eX
    rw [dJ hc] at eX
    clear hc
    go_wp2_with (fail)
    refine eX.mono ?_
    rintro e w6 ⟨rfl, ⟨S6, Bf, Bd, Gv⟩, oJ⟩
    have fI := iD (HK.prog Gv Bf Bd oJ)
    have nz : Hid (bZ w w6 L S K L S6 K) := (bZ.dj HX).trans (bZ.iT oJ Bf Bd)
    clear Bf Bd Gv oJ rZ DI Ml c3
    go_wp2_with (fail)
    refine (oQ fI).mono ?_
    rintro e w7 ⟨rfl, hK, hX⟩
    have TR := iD hK
    have T8 := iD (nz.trans (.dj hX))
    clear hK hX
    go_wp2
    go_ret2
    rw [HB]
    exact ⟨rfl, .mk' T8 TR⟩
   have YN : b.bh = false := by simpa using xO
   have UX := iD YN
   have HB : Hid (aK b f = (aq b f, f, true, 0)) := by
    unfold aK
    rw [Hid, iN cO, he, uT]
    simp only [YN]
    rfl
   have AG : Hid (bQ (aq b f) = false) := by
    show (!b.erase.isEmpty || b.data.isSome || b.bh) = false
    rw [he, uT, YN]
    rfl
   clear h ho cO jF Qu he uT a1 a2 a3 xO YN
   go_enter func53, ntmps53
   go_wp2_with (fail)
   refine HR.mono ?_
   rintro e w1 ⟨rfl, hK, hX⟩
   have HK := iD hK
   have HX := iD hX
   clear hK hX
   have rZ : w1.cell? ⟨K.D, 11, none⟩ = some (.slice A9 0 c9) := by rw [← jY]; exact HK.row 11 _ rfl
   have DI := pC _ HK
   have Ml : w1.cell? ⟨K.D, 14, none⟩ = some (.bool b.bh) := HK.row 14 _ rfl
   have c3 : w1.cell? ⟨K.D, 3, none⟩ = some (.pointer (some ⟨S.D, 0, none⟩)) := HK.row 3 _ rfl
   rw [UX] at Ml
   clear c3
   go_wp2_with (fail)
   refine (dG HK Dh).mono ?_
   rintro e w9 ⟨rfl, rfl⟩
   rw [AG]
   go_wp2
   go_ret2
   rw [HB]
   exact ⟨rfl, .mk' (.dj HX) HK⟩
end
end Go.Proofs.YtjdknddnanopaaaGreat
