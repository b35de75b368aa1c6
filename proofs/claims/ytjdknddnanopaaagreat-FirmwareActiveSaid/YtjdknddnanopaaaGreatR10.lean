/-
  Part 10 of the proof.
-/
import Derived.Laws.Rows
import Derived.Laws.CopyOwn
import Derived.Laws.Tables
import Derived.Test.YtjdknddnanopaaaGreatR9
namespace Go.Proofs.YtjdknddnanopaaaGreat
open Go.RowKit Tryz
set_option maxRecDepth 100000
set_option maxHeartbeats 16000000
set_option linter.all false
variable {f g : Fl} {s : St} {w w' : World} {i n x : Int} {l p v : List Int} {B D base bl e fi k : Nat} {xs : List Value} {X : Nat → Prop} {P : Program} {ops : Array Oper} {o : Oper} {u : Value} {sp : List eB}
theorem KM {g n cap : Nat} (hl : l.length = n) (h : w.ownsRow base e 1 (.slice (some ⟨g, 0, none⟩) n cap) n (aA l)) (hx : l[k]? = some x) : w.cell? ⟨g, k, none⟩ = some (.int .i64 x) := by
 have := (List.getElem?_eq_some_iff.1 hx).1
 rw [h.cellAt k oM]
 simp [aA, hx]
theorem sG {g n cap : Nat} (h : w.ownsRow base e 1 (.slice (some ⟨g, 0, none⟩) n cap) n (aA l)) (k : Nat) (x : Int) :
 (w.setCell ⟨g, k, none⟩ (.int .i64 x)).ownsRow base e 1 (.slice (some ⟨g, 0, none⟩) n cap) n (aA (l.set k x)) := by
 have : aA (l.set k x) = (aA l).set k (.int .i64 x) := by simp [aA]
 rw [this]
 exact (h.stored k (.int .i64 x)).1
theorem B6 {b b' size n : Nat} {v : Value} (h : w.ownsRow b e size v n xs) (hb : b' ≤ b) : w.ownsRow b' e size v n xs := by
 rcases h.2 with h2 | ⟨g, cap, cur, h2, h3, h4⟩
 ·exact ⟨h.1, .inl h2⟩
 exact ⟨h.1, .inr ⟨g, cap, cur, h2, Nat.le_trans hb h3, h4⟩⟩
theorem um (w : World) (t ty e : TypeId) (i : TypeInfo) (z : Value) (size bytes : Nat) (ht : P.underlying t = some (.slice e)) (hi : P.info? e = some i) (hz : i.zero = some z) 
 (gK : i.size = size) (tX : i.bytes = bytes) (Ci : z.cells.size = size) (hsz : 0 < size)
 (q : Addr) (B : Nat) (A : Option Addr) (m c : Nat) (news : List Value) (hr : Rd w B A news) (hl : news.length = m * size) (h1 : ∀ u ∈ news, u.oneCell' = true) (hm : 0 < m)
 (JW : m ≤ maxLen) (kF : m * bytes ≤ 140737488355328) :
 ∃ v' w', (Builtin.append_ #[t, t] ty #[.slice (some q) 0 0, .slice A m c]).run P w = .ok v' w' ∧ w'.ownsRow w.heap.size e size v' m news ∧ bW w w' := by
 subst gK
 subst tX
 have gB : news ≠ [] := by
  rintro rfl
  have := Nat.mul_pos hm hsz
  rw [List.length_nil] at hl
  omega
 obtain ⟨b, off, rfl, hbB, hc⟩ := hr gB
 have sO : ∀ j u, news[j]? = some u → w.cell? ((⟨b, off, none⟩ : Addr).add j) = some u := by
  intro j u hu
  rw [Addr.add_lit]
  exact hc j u hu
 have JP : m ≤ 9223372036854775807 := by simp only [maxLen] at JW; omega
 have nP := run_append_grow (P := P) (w := w) t ty e i z ht hi hz q 0 0 [] (by simp) (fun j v hv => by simp at hv) ⟨b, off, none⟩ m c news hl sO oM oM (growslice_fits oM (by rw [Nat.zero_add]; exact kF))
 simp only [Nat.zero_add, Array.empty_append] at nP
 refine ⟨_, _, nP, ⟨hl, .inr ⟨w.heap.size, _, _, rfl, Nat.le_refl _, heap_alloc_new w.drew _, grownCap_ge w m 0 e, grownCap_le_maxLen w m 0 e JW, ?_, ?_⟩⟩, Below.alloc (Below.drew bV) cV _⟩
 ·have UC := grownCap_ge w m 0 e
  simp only [Array.size_append, List.size_toArray, size_zeroCells, Ci, hl, ← Nat.add_mul]
  congr 1
  omega
 simp only [Array.toList_append]
 rw [← hl]
 simp
theorem l7 {a : Act} {K : Act → World → Prop} {Q : Exit → Act → World → Prop} {E : Prop} 
 (hg : o.guard = none) (s x : Operand) (t : TypeId) (ho : o.op = .call { callee := .builtin .append, args := #[s, x], argTypes := #[t, t] })
 (e : TypeId) (i : TypeInfo) (z : Value) (size bytes : Nat) (ht : P.underlying t = some (.slice e)) (hi : P.info? e = some i) (hz : i.zero = some z)
 (gK : i.size = size) (tX : i.bytes = bytes) (Ci : z.cells.size = size) (hsz : 0 < size)
 (q : Addr) (hs : a.eval s = .slice (some q) 0 0)
 (B : Nat) (A : Option Addr) (m c : Nat) (news : List Value) (hx : a.eval x = .slice A m c) (hr : Rd w B A news) (hl : news.length = m * size) (h1 : ∀ u ∈ news, u.oneCell' = true) (hm : 0 < m)
 (JW : m ≤ maxLen) (kF : m * bytes ≤ 140737488355328)
 (h : ∀ v' w', w'.ownsRow w.heap.size e size v' m news → bW w w' → K (a.put o.dst v') w') :
 if Region.wanted o (yielded ops a.tmps) = true then Oper.wp P o a w K Q else E := by
 have hw : Region.wanted o (yielded ops a.tmps) = true := by simp [Region.wanted, hg]
 rw [iP hw]
 obtain ⟨v', w', nP, h2, h3⟩ := um (P := P) w t o.type e i z size bytes ht hi hz gK tX Ci hsz q B A m c news hr hl h1 hm JW kF
 unfold Oper.wp execOp
 simp only [ho, resolve, invoke, builtin, Sem.run_bind, Sem.run_pure, Result.andThen_ok, List.map_toArray, List.map_cons, List.map_nil, hs, hx, nP]
 exact h v' w' h2 h3
theorem qv {x : Rc} (h : ca X w x g) (hX : ∀ b, X b → b < w.heap.size) (block : Int) :
 Calls prog 26 #[x.v g, .int .i64 block] w fun e w' => ∃ y : Rc, e = .returned (.tuple #[y.v (aR g block).1, .int .i64 (aR g block).2]) ∧ ca X w' y (aR g block).1 ∧ bW w w' := by
 have dc := kn (block := block) h.ok
 have H := iD h
 have HX := iD hX
 have qp := h.b2
 have kC := h.ok.b2
 unfold maxLen at qp
 obtain ⟨A, c, B, d, P, r⟩ := x
 simp only at qp
 show Calls prog 26 #[.agg #[.slice A g.img.length c, .int .i64 g.pg, .slice B g.ar.length d, .bool g.aF, .int .i64 g.be, .slice P g.az.length r], _] w _
 obtain ⟨V, hV⟩ := ex ((w.alloc (.cells #[.slice A g.img.length c, .int .i64 g.pg, .slice B g.ar.length d, .bool g.aF, .int .i64 g.be, .slice P g.az.length r] 35)).alloc (.cells Bi 35))
 have oY : Hid (bW w V) := by rw [← hV]; exact ck _ _ _
 have h6 := uL w (.slice A g.img.length c) (.int .i64 g.pg) (.slice B g.ar.length d) (.bool g.aF) (.int .i64 g.be) (.slice P g.az.length r) (.slice none 0 0) (.int .i64 0) (.slice none 0 0) (.bool false) (.int .i64 0) (.slice none 0 0) 35 35
 rw [hV] at h6
 have H6 := iD h6
 have hgV : w.heap.size + 1 < V.heap.size := h6.2.lt
 unfold aR
 by_cases hd : g.aF = true
 ·rw [iP hd]
  have qo : g.aF = true := hd
  clear h hX h6 dc hd
  obtain ⟨a0, a1, a2, a3, a4, a5, a6⟩ := H6.1
  obtain ⟨b0, b1, b2, b3, b4, b5, b6⟩ := H6.2
  have e0 := b6 0
  have e1 := b6 1
  have e2 := b6 2
  have e3 := b6 3
  have e4 := b6 4
  have e5 := b6 5
  clear a6 b6
  go_enter func26, ntmps26
  go_upto_region 1 with (fail)
  try rw [hV]
  clear hV
  go_wp2
  (try simp only [Exit.inBlock, Exit.then])
  refine bodyPost_ret (v := .tuple #[(Rc.mk A c B d P r).v g, .int .i64 20]) ?_ rfl ⟨⟨A, c, B, d, P, r⟩, rfl, ca.cU (X := X2 X w.heap.size) ?_ (fun _ => .inl), ?_⟩
  ·rw [results_cell_tmp rfl]
   simp only [Rc.v]
   go_simp
  ·(repeat (refine ca.setCell ?_ _ _ (by first | exact fj _ _ | exact jk _ _)))
   exact H.two.below (ck _ _ _)
  (repeat (refine Below.setCell ?_ (by simp only; omega) _))
  exact ck _ _ _
 rw [iN hd]
 by_cases hout : block < 0 ∨ (g.ar.length : Nat) ≤ block
 ·rw [iP hout]
  have qo : g.aF = false := by simpa using hd
  by_cases V4 : block < 0
  ·clear h hX h6 dc hd hout
   obtain ⟨a0, a1, a2, a3, a4, a5, a6⟩ := H6.1
   obtain ⟨b0, b1, b2, b3, b4, b5, b6⟩ := H6.2
   have e0 := b6 0
   have e1 := b6 1
   have e2 := b6 2
   have e3 := b6 3
   have e4 := b6 4
   have e5 := b6 5
   clear a6 b6
   go_enter func26, ntmps26
   go_upto_region 1 with (fail)
   try rw [hV]
   clear hV
   go_wp2
   (try simp only [Exit.inBlock, Exit.then])
   refine bodyPost_ret (v := .tuple #[(Rc.mk A c B d P r).v g, .int .i64 10]) ?_ rfl ⟨⟨A, c, B, d, P, r⟩, rfl, ca.cU (X := X2 X w.heap.size) ?_ (fun _ => .inl), ?_⟩
   ·rw [results_cell_tmp rfl]
    simp only [Rc.v]
    go_simp
   ·(repeat (refine ca.setCell ?_ _ _ (by first | exact fj _ _ | exact jk _ _)))
    exact H.two.below (ck _ _ _)
   (repeat (refine Below.setCell ?_ (by simp only; omega) _))
   exact ck _ _ _
  have UC : (g.ar.length : Int) ≤ block := oM
  have hneg' : decide (block < 0) = false := by simpa using V4
  clear h hX h6 dc hd hout V4
  obtain ⟨a0, a1, a2, a3, a4, a5, a6⟩ := H6.1
  obtain ⟨b0, b1, b2, b3, b4, b5, b6⟩ := H6.2
  have e0 := b6 0
  have e1 := b6 1
  have e2 := b6 2
  have e3 := b6 3
  have e4 := b6 4
  have e5 := b6 5
  clear a6 b6
  go_enter func26, ntmps26
  go_upto_region 1 with (fail)
  try rw [hV]
  clear hV
  go_wp2
  (try simp only [Exit.inBlock, Exit.then])
  refine bodyPost_ret (v := .tuple #[(Rc.mk A c B d P r).v g, .int .i64 10]) ?_ rfl ⟨⟨A, c, B, d, P, r⟩, rfl, ca.cU (X := X2 X w.heap.size) ?_ (fun _ => .inl), ?_⟩
  ·rw [results_cell_tmp rfl]
   simp only [Rc.v]
   go_simp
  ·(repeat (refine ca.setCell ?_ _ _ (by first | exact fj _ _ | exact jk _ _)))
   exact H.two.below (ck _ _ _)
  (repeat (refine Below.setCell ?_ (by simp only; omega) _))
  exact ck _ _ _
 have qo : g.aF = false := by simpa using hd
 obtain ⟨bk, rfl⟩ : ∃ p : Nat, block = (p : Int) := ⟨block.toNat, oM⟩
 have sQ : bk < g.ar.length := oM
 simp only [Int.toNat_natCast]
 have qn := h.lE
 have hlen := h.ok.len
 have rR := h.ok.p1
 have Dw := h.ok.p2
 obtain ⟨R, hR⟩ := ex (if (dy g).2 = true then (({ (dy g).1 with img := lay g.img (64 * g.pg * bk) (eK ((g.img.drop (64 * g.pg * bk)).take (64 * g.pg)) g.az), ar := fc g.ar bk } : Fl), (20 : Int)) else ({ (dy g).1 with img := lay g.img (64 * g.pg * bk) (List.replicate (64 * g.pg) 255), ar := fc g.ar bk }, 0))
 have EF : aR g (bk : Int) = R := by
  unfold aR
  rw [iN hd, iN hout]
  simp only [Int.toNat_natCast]
  exact hR
 rw [EF] at dc
 rw [hR]
 have MO := iD dc
 have HR := iD hR
 have yg := iD (C0 (h.below oY))
 rw [Ra] at yg
 have lU := iD (dY g)
 obtain ⟨NI, wh⟩ := ex g.img.length
 obtain ⟨NW, Y4⟩ := ex g.ar.length
 have nv := iD wh
 have FH := iD Y4
 have yd := iD hlen
 rw [Y4] at sQ kC
 rw [wh] at qn
 obtain ⟨a0, a1, a2, a3, a4, a5, _⟩ := h6.1
 have hneg' : decide ((bk : Int) < 0) = false := by simp
 have hge' : decide (NW ≤ bk) = false := by simp; omega
 have T2 := yg
 rw [Rc.v, wh, Y4, qo] at T2
 rw [qo] at hV a3
 clear h hX h6 dc hd hout EF hR wh Y4 hlen yg
 obtain ⟨M, hM⟩ := ex (64 * g.pg)
 obtain ⟨Z, hZ⟩ := ex (M * bk)
 have Ab : 64 ≤ M := oM
 have CB : M ≤ 1024 := oM
 have WB : Z + M ≤ NI := by
  have h1 : M * bk + M ≤ M * NW := by
   have := Nat.mul_le_mul_left M (by omega : bk + 1 ≤ NW)
   rw [Nat.mul_add, Nat.mul_one] at this
   exact this
  have h2 := yd.out
  rw [nv, FH, show NW * g.pg * 64 = M * NW by rw [← hM, Nat.mul_comm (64 * g.pg), Nat.mul_assoc, Nat.mul_comm g.pg 64]] at h2
  omega
 have x1 : (64 : Int) * (g.pg : Int) = (M : Int) := oM
 have x2 : (M : Int) * (bk : Int) = (Z : Int) := by rw [← hZ]; push_cast; rfl
 have TP := iD hM
 have xV := iD hZ
 rw [hM, hZ] at HR
 clear hM hZ
 rw [nv, FH, qo]
 rw [nv] at a0 hV
 rw [FH] at a2 hV
 clear qo
 go_enter func26, ntmps26
 go_wp2_with (fail)
 try rw [hV]
 clear hV a0 a1 a2 a3 a4 a5
 refine T2.mono ?_
 rintro e w3 ⟨rfl, gV⟩
 have jI : Hid (bW w w3) := oY.trans (gV.mono oY.size)
 have DQ := iD (H6.1.below gV oM)
 have M7 := iD (H6.2.below gV oM)
 have ye : Hid (ca (X2 X w.heap.size) w3 ⟨A, c, B, d, P, r⟩ (dy g).1) := H.cut.two.below jI
 rw [nv, FH] at DQ
 clear gV T2 H6
 obtain ⟨g', du⟩ := ex (dy g).1
 obtain ⟨kJ, gU⟩ := ex (dy g).2
 rw [du, gU] at HR
 rw [du] at ye lU
 rw [du, gU]
 clear du gU
 obtain ⟨W3, mC⟩ := ex (pX w3 w.heap.size (.slice A NI c) (.int .i64 g.pg) (.slice B NW d) (.bool g'.aF) (.int .i64 g'.be) (.slice P g.az.length r))
 have gg : Hid (bW w W3) := by rw [← mC]; exact qy jI cV _ _ _ _ _ _
 have P4 : Hid (ca (X2 X w.heap.size) W3 ⟨A, c, B, d, P, r⟩ g') := by rw [← mC]; exact ye.pX (fj _ _) _ _ _ _ _ _
 have FP : Hid (iM W3 w.heap.size (.slice A NI c) (.int .i64 g.pg) (.slice B NW d) (.bool g'.aF) (.int .i64 g'.be) (.slice P g.az.length r)) := by rw [← mC]; exact DQ.put _ _ _ _ _ _
 have Qa : Hid (iM W3 (w.heap.size + 1) (.slice none 0 0) (.int .i64 0) (.slice none 0 0) (.bool false) (.int .i64 0) (.slice none 0 0)) := by rw [← mC]; exact M7.LU oM _ _ _ _ _ _
 have SL : w.heap.size + 1 < W3.heap.size := Qa.lt
 unfold pX at mC
 obtain ⟨a0, a1, a2, a3, a4, a5, a6⟩ := DQ.out
 have f0 := a6 0
 have f1 := a6 1
 have f2 := a6 2
 have f3 := a6 3
 have f4 := a6 4
 have f5 := a6 5
 clear a6
 go_upto_region 6 with (fail)
 try rw [mC]
 clear mC a0 a1 a2 a3 a4 a5 f0 f1 f2 f3 f4 f5 DQ M7 ye jI
 have zk : Hid ((ag .u8 g.img).length = NI * 1) := by rw [Hid, aD, nv, Nat.mul_one]
 have HKW : Hid ((aA g.ar).length = NW * 1) := by rw [Hid, cj, FH, Nat.mul_one]
 obtain ⟨i5, rS, jd, jc, jb⟩ := info_parts kz
 obtain ⟨i3, vS, kB, jN, la⟩ := info_parts mr
 have WJ : 0 < NI := by
  have := yd.out
  rw [nv, FH] at this
  have := Nat.mul_le_mul (show 1 ≤ NW by omega) rR
  omega
 have WI : 0 < NW := oM
 have u0 := FP.out.1
 have u2 := FP.out.2.2.1
 have vR : ∀ w' : World, bW W3 w' → w'.cell? ⟨w.heap.size, 0, none⟩ = some (.slice A NI c) ∧ w'.cell? ⟨w.heap.size, 2, none⟩ = some (.slice B NW d) ∧ bW W3 w' := fun w' hb => ⟨(hb.cell (p := ⟨w.heap.size, 0, none⟩) (by simp only; omega)).trans u0, (hb.cell (p := ⟨w.heap.size, 2, none⟩) (by simp only; omega)).trans u2, hb⟩
 have zl := iD vR
 have HRI : Hid (∀ w' : World, (w'.cell? ⟨w.heap.size, 0, none⟩ = some (.slice A NI c) ∧ w'.cell? ⟨w.heap.size, 2, none⟩ = some (.slice B NW d) ∧ bW W3 w') → Rd w' w.heap.size A (ag .u8 g.img)) := fun w' h => H.a.rd.below (gg.trans (h.2.2.mono gg.size)) cV
 have XI : Hid (∀ w' : World, (w'.cell? ⟨w.heap.size, 0, none⟩ = some (.slice A NI c) ∧ w'.cell? ⟨w.heap.size, 2, none⟩ = some (.slice B NW d) ∧ bW W3 w') → Rd w' w.heap.size B (aA g.ar)) := fun w' h => H.b.rd.below (gg.trans (h.2.2.mono gg.size)) cV
 have PK : Hid (∀ (w' : World) (o : Obj), (w'.cell? ⟨w.heap.size, 0, none⟩ = some (.slice A NI c) ∧ w'.cell? ⟨w.heap.size, 2, none⟩ = some (.slice B NW d) ∧ bW W3 w') → (w'.alloc o).cell? ⟨w.heap.size, 0, none⟩ = some (.slice A NI c) ∧ (w'.alloc o).cell? ⟨w.heap.size, 2, none⟩ = some (.slice B NW d) ∧ bW W3 (w'.alloc o)) := fun w' o h => zl _ (h.2.2.alloc h.2.2.size o)
 have pO : Hid (∀ (w' Hd : World), (w'.cell? ⟨w.heap.size, 0, none⟩ = some (.slice A NI c) ∧ w'.cell? ⟨w.heap.size, 2, none⟩ = some (.slice B NW d) ∧ bW W3 w') → bW w' Hd → Hd.cell? ⟨w.heap.size, 0, none⟩ = some (.slice A NI c) ∧ Hd.cell? ⟨w.heap.size, 2, none⟩ = some (.slice B NW d) ∧ bW W3 Hd) := fun w' Hd h hb => zl _ (h.2.2.trans (hb.mono h.2.2.size))
 clear vR u0 u2
 have px : Hid (∀ w' : World, (w'.cell? ⟨w.heap.size, 0, none⟩ = some (.slice A NI c) ∧ w'.cell? ⟨w.heap.size, 2, none⟩ = some (.slice B NW d) ∧ bW W3 w') → W3.heap.size ≤ w'.heap.size) := fun w' h => h.2.2.size
 go_cut [7, 8] (fun s t wx => ∃ g7 c7 g8 c8, s = .slice (some ⟨g7, 0, none⟩) NI c7 ∧ t = .slice (some ⟨g8, 0, none⟩) NW c8 ∧ NI ≤ c7 ∧ c7 ≤ maxLen ∧ NW ≤ c8 ∧ c8 ≤ maxLen ∧ g7 ≠ g8 ∧ W3.heap.size ≤ g7 ∧ W3.heap.size ≤ g8 ∧
  wx.ownsRow W3.heap.size 5 1 (.slice (some ⟨g7, 0, none⟩) NI c7) NI (ag .u8 g.img) ∧ wx.ownsRow W3.heap.size 3 1 (.slice (some ⟨g8, 0, none⟩) NW c8) NW (aA g.ar) ∧ bW W3 wx)
 case first =>
  go_region_held3 (fun w' => w'.cell? ⟨w.heap.size, 0, none⟩ = some (.slice A NI c) ∧ w'.cell? ⟨w.heap.size, 2, none⟩ = some (.slice B NW d) ∧ bW W3 w') (first | exact zl _ (Below.drew bV) | exact PK _ _ (by assumption) | exact hS8 | exact hS9) (first
   | (refine l7 rfl _ _ 32 rfl 5 i5 (.int .u8 0) 1 1 underlying32 rS jd jc jb rfl oM _ rfl w.heap.size _ NI _ (ag .u8 g.img) rfl (HRI _ (by assumption)) zk (cZ _ _) WJ (by unfold maxLen; omega) oM ?_; intro v8 w8 iH kG; have hS8 := pO _ w8 (by assumption) kG; have hO8 : w8.ownsRow W3.heap.size 5 1 v8 NI (ag .u8 g.img) := B6 iH (px _ (by assumption)); clear iH; obtain ⟨A8, c8, rfl, EI, EH, GB⟩ := a9 hO8; obtain ⟨g8, rfl, aav, ab9⟩ := GB WJ)
   | (refine l7 rfl _ _ 33 rfl 3 i3 (.int .i64 0) 1 8 underlying33 vS kB jN la rfl oM _ rfl w.heap.size _ NW _ (aA g.ar) rfl (XI _ (by assumption)) HKW (mY _) WI (by unfold maxLen; omega) oM ?_; intro v9 w9 kU oL; have hS9 := pO _ w9 (by assumption) oL; have hO9 : w9.ownsRow W3.heap.size 3 1 v9 NW (aA g.ar) := B6 kU (px _ (by assumption)); have WH : w9.ownsRow W3.heap.size 5 1 (.slice (some ⟨g8, 0, none⟩) NI c8) NI (ag .u8 g.img) := (by first | exact aC hO8 oL | exact aC (aC hO8 (bI w8 _)) oL); clear kU; obtain ⟨A9, c9, rfl, OK, OJ, hg9⟩ := a9 hO9; obtain ⟨g9, rfl, Wf, aau⟩ := hg9 WI))
  all_goals
   (try go_wp2_with fail)
   go_meet
   exact ⟨g8, c8, g9, c9, rfl, rfl, EI, EH, OK, OJ, fun e => aL WH hO9 (by decide) g8 rfl (by rw [e]; rfl), aav, Wf, WH, hO9, hS9.2.2⟩
 case rest =>
  obtain ⟨g7, c7, g8, c8, rfl, rfl, Q6, OR, h81, h82, Za, hg7, GB, Nl, iH, hbc⟩ := hcut
  clear zl HRI XI PK pO px zk HKW
  unfold maxLen at OR h82
  obtain ⟨b', dO⟩ := ex (if kJ = true then eK ((g.img.drop Z).take M) g.az else List.replicate M 255)
  have cB : b'.length = M := by
   rw [← dO]
   split
   ·rw [db, List.length_take, List.length_drop, nv]; omega
   rw [List.length_replicate]
  have HB' := iD dO
  have HBL' := iD cB
  have X4 := iD Nl
  have ya := iD iH
  have T5 := iD hbc
  have p1c : wc.cell? ⟨w.heap.size, 1, none⟩ = some (.int .i64 g.pg) := (hbc.cell (p := ⟨w.heap.size, 1, none⟩) (by simp only; omega)).trans FP.2.1
  clear Nl iH hbc dO cB
  go_wp2
  go_loopw [40] (fun i wr => ∃ j : Nat, j ≤ M ∧ i = .int .i64 j ∧ wr.ownsRow W3.heap.size 5 1 (.slice (some ⟨g7, 0, none⟩) NI c7) NI (ag .u8 (lay g.img Z (b'.take j))) ∧ wr.ownsRow W3.heap.size 3 1 (.slice (some ⟨g8, 0, none⟩) NW c8) NW (aA g.ar) ∧ bW W3 wr) (fun i _ => M - (intOf i).toNat)
  case atStart => exact ⟨0, oM, rfl, by rw [List.take_zero, lD]; exact X4, ya, T5⟩
  case round =>
   obtain ⟨j, hj, rfl, ho, EG, hb⟩ := hrel
   have xc := iD ho
   have Rj := iD EG
   have xF := iD hb
   have ZF : Hid (bW w wr) := gg.trans (xF.mono gg.size)
   clear ho EG hb p1c
   have p1r : wr.cell? ⟨w.heap.size, 1, none⟩ = some (.int .i64 g.pg) := (xF.cell (p := ⟨w.heap.size, 1, none⟩) (by simp only; omega)).trans FP.2.1
   by_cases aY : j < M
   ·obtain ⟨y, hy⟩ := getElem?_of_lt (l := b') (k := j) (by rw [HBL']; exact aY)
    obtain ⟨z, hz⟩ := getElem?_of_lt (l := g.img) (k := Z + j) (by rw [nv]; omega)
    have Cj : (lay g.img Z (b'.take j))[Z + j]? = some z := by
     rw [mX _ _ _ (by rw [List.length_take, HBL', nv]; omega), List.length_take, HBL', iN oM]
     exact hz
    have ib : (lay g.img Z (b'.take j)).length = NI := by rw [cK _ _ _ (by rw [List.length_take, HBL', nv]; omega), nv]
    have k1 : (0 : Int) ≤ (Z : Int) + (j : Int) := oM
    have k2 : (Z : Int) + (j : Int) < (NI : Int) := oM
    have k3 : ((Z : Int) + (j : Int)).toNat = Z + j := oM
    have eX : Hid ((lay g.img Z (b'.take j)).set (Z + j) y = lay g.img Z (b'.take (j + 1))) := jz (by rw [HBL', nv]; exact WB) hy
    cases gU : kJ with
    | false =>
     have Lf : y = 255 := by
      have h1 := HB'.out
      rw [gU, iN (by simp)] at h1
      rw [← h1, List.getElem?_replicate, iP aY] at hy
      exact (Option.some.inj hy).symm
     subst Lf
     have e0 := qQ ib xc Cj
     have e1 : wr.frozen? ⟨g7, Z + j, none⟩ = false := xc.frozenAt _
     have n1 := iu xc (Z + j) 255
     rw [eX] at n1
     have yb := iD n1
     have X9 := iD (ownsRow_setCell_other Rj (a := ⟨g7, Z + j, none⟩) (by simpa [Value.ownBlock] using fun e => Za e.symm) (.int .u8 255))
     have uE : Hid (bW W3 _) := xF.setCell (p := ⟨g7, Z + j, none⟩) hg7 (.int .u8 255)
     clear hy hz Cj n1 ib
     go_wp2
     go_roundw
     case rel => exact ⟨j + 1, oM, by go_num, yb, X9, uE⟩
     case measure => simp [intOf]; omega
    | true =>
     have TC : Hid (bits .or .u8 z (dm g.az j) = y) := by
      have h1 := HB'.out
      rw [gU, iP rfl] at h1
      rw [← h1, eJ, List.getElem?_take, iP aY, List.getElem?_drop, hz] at hy
      show _ = _
      simpa [nB] using hy
     have xb := iD (yA (P4.below (xF.trans (Below.drew bV))) j oM)
     simp only [lU.out.2.2.2] at xb
     rw [Rc.v, lU.1, lU.2.1, lU.2.2.1, lU.2.2.2, nv, FH] at xb
     obtain ⟨a0, a1, a2, a3, a4, a5, _⟩ := FP.below xF oM
     have e0 := qQ ib xc Cj
     have e1 : wr.frozen? ⟨g7, Z + j, none⟩ = false := xc.frozenAt _
     have Sa := TC.out
     have Jq := iD Cj
     have yc := iD ib
     clear hy hz Cj ib
     generalize dm g.az j = pk at *
     have qH := xb.out
     simp only at qH
     have abh := iD qH
     clear qH xb
     go_upto_region 12 with (fail)
     go_region_with (go_at_call 78; with_reducible refine abh.out.mono ?_; rintro e w5 ⟨rfl, gC⟩; have kd := aC (aC xc.out (Below.drew bV)) gC; have e0' := qQ yc.out kd Jq.out; have e1' : w5.frozen? ⟨g7, Z + j, none⟩ = false := kd.frozenAt _)
     all_goals
      have abn := iD (aC (aC Rj (Below.drew bV)) gC)
      have RC := iD ((Below.drew xF).trans (gC.mono xF.size))
      have MS := iD kd
      clear gC kd
      have n1 := iu MS (Z + j) y
      rw [eX] at n1
      have yb := iD n1
      have X9 := iD (ownsRow_setCell_other abn (a := ⟨g7, Z + j, none⟩) (by simpa [Value.ownBlock] using fun e => Za e.symm) (.int .u8 y))
      have uE : Hid (bW W3 _) := RC.setCell (p := ⟨g7, Z + j, none⟩) hg7 (.int .u8 y)
      clear n1
      go_wp2
      go_roundw
      case rel => exact ⟨j + 1, oM, by go_num, yb, X9, uE⟩
      case measure => simp [intOf]; omega
   have Bc : M = j := oM
   subst Bc
   have eO := xc.out
   rw [List.take_of_length_le (by rw [HBL']; exact Nat.le_refl _), ← HB'] at eO
   have hq := HR.out
   clear p1r
   cases gU : kJ with
   | false =>
    rw [gU, iN (by simp)] at eO hq
    subst hq
    have ib : (lay g.img Z (List.replicate M 255)).length = NI := by
     rw [cK _ _ _ (by rw [List.length_replicate, nv]; exact WB), nv]
    have yc := iD ib
    obtain ⟨u, hu⟩ := getElem?_of_lt (l := g.ar) (k := bk) (by rw [FH]; exact sQ)
    have dn := KM FH Rj hu
    have df : wr.frozen? ⟨g8, bk, none⟩ = false := Rj.frozenAt _
    have NF : Hid (g.ar.set bk (wrap64 (u + 1)) = fc g.ar bk) := by
     show _ = _
     unfold fc
     rw [hu]
     rfl
    have Se := sG Rj bk (wrap64 (u + 1))
    rw [NF] at Se
    have yO := ownsRow_setCell_other eO (a := ⟨g8, bk, none⟩) (by simpa [Value.ownBlock] using fun e => Za e) (.int .i64 (wrap64 (u + 1)))
    have kY : Hid ((fc g.ar bk).length = NW) := by rw [Hid, dA]; exact FH
    have dP := xF.setCell (p := ⟨g8, bk, none⟩) GB (.int .i64 (wrap64 (u + 1)))
    have uy := P4.below dP
    have AJ : Hid (ca (X2 X w.heap.size) (wr.setCell ⟨g8, bk, none⟩ (.int .i64 (wrap64 (u + 1)))) ⟨some ⟨g7, 0, none⟩, c7, some ⟨g8, 0, none⟩, c8, P, r⟩ { g' with img := (lay g.img Z (List.replicate M 255)), ar := fc g.ar bk }) :=
     ⟨MO, cn.new (tw HX SL) cV (by rw [aD]; exact ib) yO, by simp only [ib]; exact Q6, by unfold maxLen; exact OR, cn.new (tw HX SL) cV (by rw [cj]; exact kY) Se, by simp only [kY.out]; exact h81, by unfold maxLen; exact h82, uy.p, uy.p1, uy.p2⟩
    obtain ⟨a0, a1, a2, a3, a4, a5, a6⟩ := FP.below dP oM
    obtain ⟨b0, b1, b2, b3, b4, b5, b6⟩ := Qa.below dP oM
    have f0 := a6 0
    have f2 := a6 2
    have e0 := b6 0
    have e1 := b6 1
    have e2 := b6 2
    have e3 := b6 3
    have e4 := b6 4
    have e5 := b6 5
    have gh : Hid (Below w.heap.size w (wr.setCell ⟨g8, bk, none⟩ (.int .i64 (wrap64 (u + 1))))) := gg.trans (dP.mono gg.size)
    obtain ⟨WF, SY⟩ := ex (wr.setCell ⟨g8, bk, none⟩ (.int .i64 (wrap64 (u + 1))))
    rw [SY] at AJ gh a0 a1 a2 a3 a4 a5 b0 b1 b2 b3 b4 b5 f0 f2 e0 e1 e2 e3 e4 e5
    clear a6 b6 eO ib uy dP hu Se yO NF
    go_upto_region 16 with (fail)
    try rw [SY]
    clear SY dn df
    go_wp2
    (try simp only [Exit.inBlock, Exit.then])
    refine bodyPost_ret (v := .tuple #[.agg #[.slice (some ⟨g7, 0, none⟩) NI c7, .int .i64 g.pg, .slice (some ⟨g8, 0, none⟩) NW c8, .bool g'.aF, .int .i64 g'.be, .slice P g.az.length r], .int .i64 0]) ?_ rfl ⟨⟨some ⟨g7, 0, none⟩, c7, some ⟨g8, 0, none⟩, c8, P, r⟩, by simp only [Rc.v, lU.out.1, kY.out, lU.out.2.2.2, yc.out], ca.cU (X := X2 X w.heap.size) ?_ (fun _ => .inl), ?_⟩
    ·rw [results_cell_tmp rfl]
     go_simp
    ·(repeat (refine ca.setCell ?_ _ _ (by first | exact fj _ _ | exact jk _ _)))
     exact AJ
    (repeat (refine Below.setCell ?_ (by simp only; omega) _))
    exact gh
   | true =>
    rw [gU, iP rfl] at eO hq
    subst hq
    have ib : (lay g.img Z (eK ((g.img.drop Z).take M) g.az)).length = NI := by
     rw [cK _ _ _ (by rw [db, List.length_take, List.length_drop, nv]; omega), nv]
    have yc := iD ib
    obtain ⟨u, hu⟩ := getElem?_of_lt (l := g.ar) (k := bk) (by rw [FH]; exact sQ)
    have dn := KM FH Rj hu
    have df : wr.frozen? ⟨g8, bk, none⟩ = false := Rj.frozenAt _
    have NF : Hid (g.ar.set bk (wrap64 (u + 1)) = fc g.ar bk) := by
     show _ = _
     unfold fc
     rw [hu]
     rfl
    have Se := sG Rj bk (wrap64 (u + 1))
    rw [NF] at Se
    have yO := ownsRow_setCell_other eO (a := ⟨g8, bk, none⟩) (by simpa [Value.ownBlock] using fun e => Za e) (.int .i64 (wrap64 (u + 1)))
    have kY : Hid ((fc g.ar bk).length = NW) := by rw [Hid, dA]; exact FH
    have dP := xF.setCell (p := ⟨g8, bk, none⟩) GB (.int .i64 (wrap64 (u + 1)))
    have uy := P4.below dP
    have AJ : Hid (ca (X2 X w.heap.size) (wr.setCell ⟨g8, bk, none⟩ (.int .i64 (wrap64 (u + 1)))) ⟨some ⟨g7, 0, none⟩, c7, some ⟨g8, 0, none⟩, c8, P, r⟩ { g' with img := (lay g.img Z (eK ((g.img.drop Z).take M) g.az)), ar := fc g.ar bk }) :=
     ⟨MO, cn.new (tw HX SL) cV (by rw [aD]; exact ib) yO, by simp only [ib]; exact Q6, by unfold maxLen; exact OR, cn.new (tw HX SL) cV (by rw [cj]; exact kY) Se, by simp only [kY.out]; exact h81, by unfold maxLen; exact h82, uy.p, uy.p1, uy.p2⟩
    obtain ⟨a0, a1, a2, a3, a4, a5, a6⟩ := FP.below dP oM
    obtain ⟨b0, b1, b2, b3, b4, b5, b6⟩ := Qa.below dP oM
    have f0 := a6 0
    have f2 := a6 2
    have e0 := b6 0
    have e1 := b6 1
    have e2 := b6 2
    have e3 := b6 3
    have e4 := b6 4
    have e5 := b6 5
    have gh : Hid (Below w.heap.size w (wr.setCell ⟨g8, bk, none⟩ (.int .i64 (wrap64 (u + 1))))) := gg.trans (dP.mono gg.size)
    obtain ⟨WF, SY⟩ := ex (wr.setCell ⟨g8, bk, none⟩ (.int .i64 (wrap64 (u + 1))))
    rw [SY] at AJ gh a0 a1 a2 a3 a4 a5 b0 b1 b2 b3 b4 b5 f0 f2 e0 e1 e2 e3 e4 e5
    clear a6 b6 eO ib uy dP hu Se yO NF
    go_upto_region 16 with (fail)
    try rw [SY]
    clear SY dn df
    go_wp2
    (try simp only [Exit.inBlock, Exit.then])
    refine bodyPost_ret (v := .tuple #[.agg #[.slice (some ⟨g7, 0, none⟩) NI c7, .int .i64 g.pg, .slice (some ⟨g8, 0, none⟩) NW c8, .bool g'.aF, .int .i64 g'.be, .slice P g.az.length r], .int .i64 20]) ?_ rfl ⟨⟨some ⟨g7, 0, none⟩, c7, some ⟨g8, 0, none⟩, c8, P, r⟩, by simp only [Rc.v, lU.out.1, kY.out, lU.out.2.2.2, yc.out], ca.cU (X := X2 X w.heap.size) ?_ (fun _ => .inl), ?_⟩
    ·rw [results_cell_tmp rfl]
     go_simp
    ·(repeat (refine ca.setCell ?_ _ _ (by first | exact fj _ _ | exact jk _ _)))
     exact AJ
    (repeat (refine Below.setCell ?_ (by simp only; omega) _))
    exact gh
theorem iM.grown {a b c d e f : Value} {row : Option Nat} (h : iM w B a b c d e f) (hg : w.grownBy w' row) (hB : row ≠ some B) : iM w' B a b c d e f := by
 have k := hg.block B h.lt (fun e => hB e.symm)
 have kc : ∀ j, w'.cell? ⟨B, j, none⟩ = w.cell? ⟨B, j, none⟩ := fun j => cell_of_block k
 have kf : ∀ j, w'.frozen? ⟨B, j, none⟩ = w.frozen? ⟨B, j, none⟩ := fun j => by simp only [World.frozen?, k]
 exact ⟨(kc 0).trans h.1, (kc 1).trans h.2.1, (kc 2).trans h.2.2.1, (kc 3).trans h.2.2.2.1, (kc 4).trans h.2.2.2.2.1, (kc 5).trans h.2.2.2.2.2.1, fun j => (kf j).trans (h.2.2.2.2.2.2 j)⟩
theorem cn.own {A : Option Addr} {n c : Nat} (hn : xs.length = n) (ho : w.ownsRow B e 1 (.slice A n c) n xs) (hX : ∀ g, (Value.slice A n c).ownBlock = some g → ¬ X g) : cn X w A xs := fun hx => by
 obtain ⟨A', c', hv, _, _, hg⟩ := a9 ho
 obtain ⟨A2, c2, jA, _, _, hr⟩ := bM ho
 injection hv with hv _ _
 injection jA with jA _ _
 subst hv
 subst jA
 have Cp : 0 < n := by
  rw [← hn]
  exact List.length_pos_iff.2 hx
 obtain ⟨g, rfl, UC, aY⟩ := hg Cp
 obtain ⟨b, off, he, hb, hc⟩ := hr hx
 have he' : b = g ∧ off = 0 := by
  injection he with he
  injection he with h1 h2
  exact ⟨h1.symm, h2.symm⟩
 obtain ⟨rfl, rfl⟩ := he'
 exact ⟨b, 0, rfl, aY, hX b rfl, hc⟩
theorem KW (b p : Nat) (w : World) (hX : ∀ b, X b → b < w.heap.size) (h1 : 1 ≤ b) (h2 : b ≤ 64) (h3 : 1 ≤ p) (h4 : p ≤ 16) :
 Calls prog 9 #[.int .i64 b, .int .i64 p] w fun e w' => ∃ y : Rc, e = .returned (.tuple #[y.v (dT b p), .int .i64 0]) ∧ ca X w' y (dT b p) ∧ bW w w' := by
 have gX : Hid (dT b p).ok := Gp h1 h2 h3 h4
 have hm3 : ∀ wx : World, (Instr.makeSlice 33 (.int .i64 b) (.int .i64 b)).run prog wx = .ok (.slice (some ⟨wx.heap.size, 0, none⟩) b b) (wx.alloc (.cells (madeCells #[.int .i64 0] b) 3)) := fun wx =>
  run_make_row' 33 3 (.int .i64 0) 8 underlying33 mr rfl .i64 .i64 b oM oM wx
 have ye : Hid ((madeCells #[.int .i64 0] b).toList = aA (List.replicate b 0)) := vL .i64 b
 generalize madeCells #[.int .i64 0] b = C3 at *
 have d1 : decide ((b : Int) < 1) = false := by simp; omega
 have d2 : decide ((64 : Int) < (b : Int)) = false := by simp; omega
 have d3 : decide ((p : Int) < 1) = false := by simp; omega
 have d4 : decide ((16 : Int) < (p : Int)) = false := by simp; omega
 obtain ⟨Z, hZ⟩ := ex (b * p)
 have WC : 1 ≤ Z := by rw [← hZ]; exact Nat.mul_le_mul h1 h3
 have YZ : Z ≤ 1024 := by rw [← hZ]; exact Nat.mul_le_mul h2 h4
 have x1 : (b : Int) * (p : Int) = (Z : Int) := by rw [← hZ]; push_cast; rfl
 obtain ⟨M, hM⟩ := ex (Z * 64)
 have x2 : (Z : Int) * 64 = (M : Int) := oM
 have hMb : M ≤ 65536 := oM
 have HZ := iD hZ
 have HM := iD hM
 have HX := iD hX
 clear hZ hM hX
 go_enter func9, ntmps9
 go_upto_region 4 with (fail)
 obtain ⟨V, hV⟩ := ex (((w.alloc (.cells Bi 35)).alloc (.cells C3 3)).alloc (.cells #[.slice none 0 0, .int .i64 p, .slice (some ⟨w.heap.size + 1, 0, none⟩) b b, .bool false, .int .i64 (-1), .slice none 0 0] 35))
 have gF : (w.alloc (.cells Bi 35)).heap.size = w.heap.size + 1 := World.size_alloc _ _
 have je : ((w.alloc (.cells Bi 35)).alloc (.cells C3 3)).heap.size = w.heap.size + 1 + 1 := by rw [World.size_alloc, gF]
 have oY : Hid (bW w V) := by rw [← hV]; exact (ck _ _ _).alloc (by rw [je]; omega) _
 have Qa : Hid (iM V (w.heap.size + 1 + 1) (.slice none 0 0) (.int .i64 p) (.slice (some ⟨w.heap.size + 1, 0, none⟩) b b) (.bool false) (.int .i64 (-1)) (.slice none 0 0)) := by rw [← hV]; exact qM _ _ _ _ _ _ _ _ _ je.symm
 have xX : Hid (V.heap.size = w.heap.size + 1 + 1 + 1) := by rw [Hid, ← hV, World.size_alloc, je]
 have FP : Hid (iM V w.heap.size (.slice none 0 0) (.int .i64 0) (.slice none 0 0) (.bool false) (.int .i64 0) (.slice none 0 0)) := by
  rw [← hV]
  exact ((qM w _ _ _ _ _ _ _ _ rfl).below ((Below.refl (w.heap.size + 1) _).alloc (by rw [gF]; exact Nat.le_refl _) _) oM).below ((Below.refl (w.heap.size + 1) _).alloc (by rw [je]; omega) _) oM
 have ue : Hid (V.ownsRow w.heap.size 3 1 (.slice (some ⟨w.heap.size + 1, 0, none⟩) b b) b (aA (List.replicate b 0))) := by
  have o1 : ((w.alloc (.cells Bi 35)).alloc (.cells C3 3)).ownsRow w.heap.size 3 1 (.slice (some ⟨w.heap.size + 1, 0, none⟩) b b) b (aA (List.replicate b 0)) := by
   have := fP (w := w.alloc (.cells Bi 35)) (base := w.heap.size) (e := 3) ye (by rw [cj, List.length_replicate]) (by rw [gF]; omega) (by unfold maxLen; omega)
   rw [gF] at this
   exact this
  rw [← hV]
  exact aC o1 (bI _ _)
 try rw [hV]
 clear hV gF je hm3 ye
 obtain ⟨i5, rS, jd, jc, jb⟩ := info_parts kz
 go_wp2
 go_loopw [30] (fun i wr => ∃ (j : Nat) (v : Value), j ≤ M ∧ i = .int .i64 j ∧ iM wr w.heap.size (.slice none 0 0) (.int .i64 0) (.slice none 0 0) (.bool false) (.int .i64 0) (.slice none 0 0) ∧ iM wr (w.heap.size + 1 + 1) (v) (.int .i64 p) (.slice (some ⟨w.heap.size + 1, 0, none⟩) b b) (.bool false) (.int .i64 (-1)) (.slice none 0 0) ∧ wr.ownsRow w.heap.size 5 1 v j (ag .u8 (List.replicate j 255)) ∧ wr.ownsRow w.heap.size 3 1 (.slice (some ⟨w.heap.size + 1, 0, none⟩) b b) b (aA (List.replicate b 0)) ∧ bW w wr ∧ (∀ g, v.ownBlock = some g → w.heap.size + 1 + 1 < g)) (fun i _ => M - (intOf i).toNat)
 case atStart => exact ⟨0, .slice none 0 0, oM, rfl, FP, Qa, World.ownsRow_nil .., ue, oY, fun g hg => by simp [Value.ownBlock] at hg⟩
 case round =>
  obtain ⟨j, v, hj, rfl, h6a, W6, ho, EG, hb, hv⟩ := hrel
  have H1 := iD h6a
  have H2 := iD W6
  have HO := iD ho
  have HW := iD EG
  have HB := iD hb
  have HV := iD hv
  have sN : w.heap.size + 1 + 1 < wr.heap.size := W6.lt
  clear ho EG hb hv
  by_cases aY : j < M
  ·have h6c := W6.below (bI wr (.cells #[.int .u8 255] 5)) oM
   have c0 := h6c.1
   have lW := HO.out
   have iL := iD (aC HO (bI wr (.cells #[.int .u8 255] 5)))
   clear h6a W6 lW
   obtain ⟨q1, q2, q3, q4, q5, q6, q7⟩ := H2.out
   clear q2 q3 q4 q5 q6 q7 h6c
   go_wp2_with (first | (at_builtin; refine wpList_append_own_at _ rfl _ _ 32 rfl w.heap.size 5 i5 (.int .u8 0) 1 1 underlying32 rS jd jc jb rfl oM v j _ rfl iL _ 1 _ [.int .u8 255] rfl rfl (cell_one_new _ _ _) (by intro u hu; simp at hu; subst hu; rfl) (by unfold maxLen; omega) oM (by rw [World.size_alloc]; omega) ?_))
   intro v' w2 bY hgrow hnil kg
   obtain ⟨A', c', rfl, aaD, aci, _⟩ := a9 bY
   have HN : Hid (w2.ownsRow w.heap.size 5 1 (.slice A' (j + 1) c') (j + 1) (ag .u8 (List.replicate (j + 1) 255))) := by
    have e : ag .u8 (List.replicate (j + 1) 255) = ag .u8 (List.replicate j 255) ++ [.int .u8 255] := by rw [List.replicate_succ', dp]; rfl
    rw [Hid, e]
    exact bY
   have YP : ∀ g, v.ownBlock = some g → w.heap.size + 1 + 1 < g := HV
   have gB : ∀ k, k ≤ w.heap.size + 1 + 1 → v.ownBlock ≠ some k := fun k hk e => by
    have := YP k e
    omega
   have m1 := (H1.below (bI wr (.cells #[.int .u8 255] 5)) oM).grown hgrow (gB _ oM)
   have m2 := (H2.out.below (bI wr (.cells #[.int .u8 255] 5)) oM).grown hgrow (gB _ oM)
   have m3 := bN (aC HW (bI wr (.cells #[.int .u8 255] 5))) hgrow (fun g hg e => by
    have du : w.heap.size + 1 = g := by simpa [Value.ownBlock] using hg
    subst du
    exact gB _ oM e)
   have gh : Hid (bW w w2) := (HB.alloc HB.size _).grown hgrow (by rw [World.size_alloc]; omega) (fun k hk => by have := YP k hk; omega)
   have xW : Hid (∀ g, (Value.slice A' (j + 1) c').ownBlock = some g → w.heap.size + 1 + 1 < g) := fun g hg => by
    rcases kg with h | h
    ·exact YP g (by rw [← h]; exact hg)
    rw [h] at hg
    injection hg with hg
    (try rw [World.size_alloc] at hg)
    omega
   have M1 : Hid (iM (w2.setCell ⟨w.heap.size + 1 + 1, 0, none⟩ (.slice A' (j + 1) c')) w.heap.size (.slice none 0 0) (.int .i64 0) (.slice none 0 0) (.bool false) (.int .i64 0) (.slice none 0 0)) := m1.Fo _ _ (by simp only; omega)
   have M2 : Hid (iM (w2.setCell ⟨w.heap.size + 1 + 1, 0, none⟩ (.slice A' (j + 1) c')) (w.heap.size + 1 + 1) (.slice A' (j + 1) c') (.int .i64 p) (.slice (some ⟨w.heap.size + 1, 0, none⟩) b b) (.bool false) (.int .i64 (-1)) (.slice none 0 0)) := m2.iF _
   have M3 := iD (ownsRow_setCell_other m3 (a := ⟨w.heap.size + 1 + 1, 0, none⟩) (by simp [Value.ownBlock]) (.slice A' (j + 1) c'))
   have uE := iD (ownsRow_setCell_other HN (a := ⟨w.heap.size + 1 + 1, 0, none⟩) (fun e => by have := xW (w.heap.size + 1 + 1) e; omega) (.slice A' (j + 1) c'))
   have jI : Hid (Below w.heap.size w (w2.setCell ⟨w.heap.size + 1 + 1, 0, none⟩ (.slice A' (j + 1) c'))) := gh.setCell (p := ⟨w.heap.size + 1 + 1, 0, none⟩) (by simp only; omega) (.slice A' (j + 1) c')
   have d0 := m2.1
   have d1 := m2.2.2.2.2.2.2 0
   clear bY hgrow hnil kg YP gB m1 m2 m3 c0 q1
   go_wp2
   go_roundw
   case rel => exact ⟨j + 1, _, oM, by go_num, M1, M2, uE, M3, jI, xW⟩
   case measure => simp [intOf]; omega
  have Bc : M = j := oM
  subst Bc
  obtain ⟨A2, c2, rfl, uz, nT, nQ⟩ := a9 HO
  obtain ⟨a0, a1, a2, a3, a4, a5, a6⟩ := W6
  obtain ⟨b0, b1, b2, b3, b4, b5, b6⟩ := h6a
  have e0 := b6 0
  have e1 := b6 1
  have e2 := b6 2
  have e3 := b6 3
  have e4 := b6 4
  have e5 := b6 5
  have Nx : Hid ((dT b p).img.length = M ∧ (dT b p).ar.length = b) := ⟨by simp only [dT]; rw [List.length_replicate, HZ, HM], by simp [dT]⟩
  clear a6 b6 nQ aY
  go_wp2
  (try simp only [Exit.inBlock, Exit.then])
  refine bodyPost_ret (v := .tuple #[.agg #[.slice A2 M c2, .int .i64 p, .slice (some ⟨w.heap.size + 1, 0, none⟩) b b, .bool false, .int .i64 (-1), .slice none 0 0], .int .i64 0]) ?_ rfl ⟨⟨A2, c2, some ⟨w.heap.size + 1, 0, none⟩, b, none, 0⟩, by simp only [Rc.v, Nx.out.1, Nx.out.2]; rfl, ?_, ?_⟩
  ·rw [results_cell_tmp rfl]
   go_simp
  ·have YM : ca (fun b => X b ∨ b = w.heap.size) wr ⟨A2, c2, some ⟨w.heap.size + 1, 0, none⟩, b, none, 0⟩ (dT b p) :=
    ⟨gX, cn.own (by rw [aD, Nx.1]) (by simp only [dT, HZ.out, HM.out]; exact HO) (fun g hg h => by
     have h2 := HV g hg
     rcases h with h | h
     ·have := HX g h; omega
     ·omega), by rw [Nx.1]; exact uz, nT, cn.own (by rw [cj, Nx.2]) HW (fun g hg h => by
     have du : w.heap.size + 1 = g := by simpa [Value.ownBlock] using hg
     rcases h with h | h
     ·have := HX g h; omega
     omega), by rw [Nx.2]; exact Nat.le_refl _, by show b ≤ maxLen; unfold maxLen; omega, cn.nil, Nat.le_refl _, Nat.zero_le _⟩
   refine ca.cU (X := fun b => X b ∨ b = w.heap.size) ?_ (fun _ => .inl)
   (repeat (refine ca.setCell ?_ _ _ (.inr rfl)))
   exact YM
  (repeat (refine Below.setCell ?_ (by simp only; omega) _))
  exact HB
theorem cM {fn : Func} {p u : Tmp} {ty : TypeId} (h : fn.results = #[.cell p ty, .tmp u]) (tmps : Array Value) (w : World) (g : Nat) (t : TypeId) (cs : Array Value) (fr : Nat × Nat) (d : TypeDesc) 
 (hp : tmps.getD p undef = .pointer (some ⟨g, 0, none⟩)) (hg : w.heap[g]? = some (.cells cs t fr))
 (hu : P.underlying ty = some d) (hd : (match d with | .struct _ | .array _ _ => true | _ => false) = true) (hi : (P.info? ty).map (·.size) = some cs.size) :
 (results fn tmps).run P w = .ok (.tuple #[.agg cs, tmps.getD u undef]) w := by
 rw [results_cell_tmp h, hp]
 show ((loadVar ty ⟨g, 0, none⟩).run P w).andThen _ = _
 rw [run_loadVar_row w g t ty cs fr d hg hu hd hi]
 rfl
theorem aP : (prog.info? 43).map (·.size) = some 15 := by kernel_rfl
theorem dK : (prog.info? 35).map (·.size) = some 6 := by kernel_rfl
structure Hx (w wr : World) (D D8 : Nat) (l : Array Value) : Prop where
 below : bW w wr
 h8 : ∃ dZ : Array Value, dZ.size = 15 ∧ wr.heap[D8]? = some (.cells dZ 43 (0, 0))
 h : wr.heap[D]? = some (.cells l 43 (0, 0))
 Jg : w.heap.size ≤ D ∧ w.heap.size ≤ D8
 ne : D ≠ D8
section
variable {w wr w' : World} {D D8 : Nat} {l : Array Value}
theorem Hx.lt (h : Hx w wr D D8 l) : D < wr.heap.size ∧ D8 < wr.heap.size := by
 obtain ⟨dZ, _, h8⟩ := h.h8
 exact ⟨(Array.getElem?_eq_some_iff.1 h.h).1, (Array.getElem?_eq_some_iff.1 h8).1⟩
theorem Hx.ab (h : Hx w wr D D8 l) (hb : bW wr w') : Hx w w' D D8 l := by
 obtain ⟨dZ, ho, h8⟩ := h.h8
 exact ⟨h.below.trans (hb.mono h.below.size), ⟨dZ, ho, (hb.block D8 h.lt.2).trans h8⟩, (hb.block D h.lt.1).trans h.h, h.Jg, h.ne⟩
theorem Hx.row (h : Hx w wr D D8 l) (j : Nat) (hj : l.toList[j]? = some u) : wr.cell? ⟨D, j, none⟩ = some u := (cell_of_row wr D j l 43 (0, 0) h.h).trans (by rw [← Array.getElem?_toList]; exact hj)
theorem Hx.fz (h : Hx w wr D D8 l) (j : Nat) : wr.frozen? ⟨D, j, none⟩ = false := frozen_of_row wr D j l 43 h.h
theorem Hx.set (h : Hx w wr D D8 l) (i : Nat) (v : Value) : Hx w (wr.setCell ⟨D, i, none⟩ v) D D8 (l.setIfInBounds i v) := by
 obtain ⟨dZ, ho, h8⟩ := h.h8
 exact ⟨h.below.setCell (p := ⟨D, i, none⟩) h.Jg.1 _, ⟨dZ, ho, (heap_setCell_other wr ⟨D, i, none⟩ D8 v (fun e => h.ne e.symm)).trans h8⟩, heap_setCell_same wr D i l 43 v h.h, h.Jg, h.ne⟩
theorem Hx.LU (h : Hx w wr D D8 l) {g i : Nat} (v : Value) (hg : w.heap.size ≤ g) (h1 : D ≠ g) (h2 : D8 ≠ g) : Hx w (wr.setCell ⟨g, i, none⟩ v) D D8 l := by
 obtain ⟨dZ, ho, h8⟩ := h.h8
 exact ⟨h.below.setCell (p := ⟨g, i, none⟩) hg _, ⟨dZ, ho, (heap_setCell_other wr ⟨g, i, none⟩ D8 v h2).trans h8⟩, (heap_setCell_other wr ⟨g, i, none⟩ D v h1).trans h.h, h.Jg, h.ne⟩
theorem Hx.grown (h : Hx w wr D D8 l) {row : Option Nat} (hg : wr.grownBy w' row) (h1 : row ≠ some D) (h2 : row ≠ some D8) (hr : ∀ k, row = some k → w.heap.size ≤ k) : Hx w w' D D8 l := by
 obtain ⟨dZ, ho, h8⟩ := h.h8
 exact ⟨h.below.grown hg h.below.size hr, ⟨dZ, ho, (hg.block D8 h.lt.2 (fun e => h2 e.symm)).trans h8⟩, (hg.block D h.lt.1 (fun e => h1 e.symm)).trans h.h, h.Jg, h.ne⟩
theorem Hx.new {V : World} {o : Obj} (hV : V = (w.alloc (.cells l 43)).alloc o) (ho : ∃ dZ : Array Value, dZ.size = 15 ∧ o = .cells dZ 43) : Hx w V w.heap.size (w.heap.size + 1) l := by
 obtain ⟨dZ, h1, rfl⟩ := ho
 subst hV
 exact ⟨ck _ _ _, ⟨dZ, h1, heap_alloc2_new _ _ _⟩, heap_alloc2_old _ _ _, ⟨Nat.le_refl _, Nat.le_succ _⟩, oM⟩
end
theorem ix (a0 a1 a5 a6 a7 a10 a11 a12 a13 : Int) (Q2 Q3 Q4 Q8 Q9 : Option Addr) (n2 c2 n3 c3 n4 c4 n8 c8 n9 c9 : Nat) (b : Bool) :
 (#[Value.int .i64 a0, .int .i64 a1, .slice Q2 n2 c2, .slice Q3 n3 c3, .slice Q4 n4 c4, .int .i64 a5, .int .i64 a6, .int .i64 a7, .slice Q8 n8 c8, .slice Q9 n9 c9, .int .i64 a10, .int .i64 a11, .int .i64 a12, .int .i64 a13, .bool b].all (·.oneCell')) = true := by
 simp [Value.oneCell']
theorem Hp {v : Int} {p : eB} (hb : s.af = false) (hi : i = k) (hk : k < s.aw.length) (hp : s.aw[k]? = some p) : ga s i v = if p.lo ≤ v ∧ v ≤ p.hi then 0 else 3 := by
 subst hi
 unfold ga iz
 rw [hb, iN (by decide), iN oM, Int.toNat_natCast, hp]
 simp only [Option.getD_some]
 by_cases h : p.lo ≤ v ∧ v ≤ p.hi
 ·rw [iP h, iN (by simpa using h)]
 rw [iN h, iP (by simpa using h)]
theorem yE {g n cap : Nat} {e t : TypeId} {size : Nat} {cells : Array Value} (h : w.ownsRow base e size (.slice (some ⟨g, 0, none⟩) n cap) n xs) (hD : w.heap[D]? = some (.cells cells t (0, 0))) (ht : e ≠ t) : ¬ D = g := by
 intro e9
 subst e9
 rcases h.2 with ⟨h1, _⟩ | ⟨g', Ph, cur, h1, _, hg, _⟩
 ·cases h1
 injection h1 with h1 _ _
 injection h1 with h1
 injection h1 with h1
 subst h1
 rw [hD] at hg
 injection hg with hg
 injection hg with _ hg _
 exact ht hg.symm
theorem yD {g n cap : Nat} {e : TypeId} {size : Nat} (h : w.ownsRow base e size (.slice (some ⟨g, 0, none⟩) n cap) n xs) (hb : w'.heap[g]? = w.heap[g]?) : w'.ownsRow base e size (.slice (some ⟨g, 0, none⟩) n cap) n xs := by
 refine ⟨h.1, ?_⟩
 rcases h.2 with h1 | ⟨g', Ph, cur, h1, h2, hg, h3⟩
 ·exact .inl h1
 refine .inr ⟨g', Ph, cur, h1, h2, ?_, h3⟩
 injection h1 with h1 _ _
 injection h1 with h1
 injection h1 with h1
 subst h1
 rw [hb]
 exact hg
theorem N8 {g n cap j : Nat} {e : TypeId} {size : Nat} (h : w.ownsRow base e size (.slice (some ⟨g, 0, none⟩) n cap) n xs) (hD : ¬ D = g) : (w.setCell ⟨D, j, none⟩ u).ownsRow base e size (.slice (some ⟨g, 0, none⟩) n cap) n xs :=
 yD h (heap_setCell_other w ⟨D, j, none⟩ g u (fun e => hD e.symm))
theorem El {g n cap : Nat} {e : TypeId} {size : Nat} (h : w.ownsRow base e size (.slice (some ⟨g, 0, none⟩) n cap) n xs) (hD : ¬ D = g) (cs : Array Value) : (w.setRow D cs).ownsRow base e size (.slice (some ⟨g, 0, none⟩) n cap) n xs :=
 yD h (setRow_other w D g cs (fun e => hD e.symm))
theorem R0 (w : World) (q : Qv) (s : St) (i v : Int) :
 Calls prog 32 #[.agg #[Value.int .i64 s.first, .int .i64 s.aa, .slice q.Q1 s.aw.length q.c1, .slice q.Q2 s.aj.length q.c2, .slice q.Q3 s.saved.length q.c3, .int .i64 s.seq, .int .i64 s.block, .int .i64 s.slot, .slice q.Q4 q.n4 q.c4, .slice q.Q5 q.n5 q.c5, .int .i64 q.pg, .int .i64 q.er, .int .i64 q.nb, .int .i64 q.ns, .bool true], .int .i64 i, .int .i64 v] w fun e w' => e = .returned (.tuple #[.agg #[Value.int .i64 s.first, .int .i64 s.aa, .slice q.Q1 s.aw.length q.c1, .slice q.Q2 s.aj.length q.c2, .slice q.Q3 s.saved.length q.c3, .int .i64 s.seq, .int .i64 s.block, .int .i64 s.slot, .slice q.Q4 q.n4 q.c4, .slice q.Q5 q.n5 q.c5, .int .i64 q.pg, .int .i64 q.er, .int .i64 q.nb, .int .i64 q.ns, .bool true], .int .i64 20]) ∧ bW w w' := by
 obtain ⟨W, hW⟩ := ex ((w.alloc (.cells #[Value.int .i64 s.first, .int .i64 s.aa, .slice q.Q1 s.aw.length q.c1, .slice q.Q2 s.aj.length q.c2, .slice q.Q3 s.saved.length q.c3, .int .i64 s.seq, .int .i64 s.block, .int .i64 s.slot, .slice q.Q4 q.n4 q.c4, .slice q.Q5 q.n5 q.c5, .int .i64 q.pg, .int .i64 q.er, .int .i64 q.nb, .int .i64 q.ns, .bool true] 43)).alloc (.cells #[.int .i64 0, .int .i64 0, .slice none 0 0, .slice none 0 0, .slice none 0 0, .int .i64 0, .int .i64 0, .int .i64 0, .slice none 0 0, .slice none 0 0, .int .i64 0, .int .i64 0, .int .i64 0, .int .i64 0, .bool false] 43))
 have HX := iD (Hx.new hW.symm ⟨_, rfl, rfl⟩)
 have tN := HX.row 14 rfl
 go_enter func32, ntmps32
 go_upto_region 2 with (fail)
 try rw [hW]
 clear hW
 refine wp_region_list ?_
 refine wpList_load_row rfl 43 _ rfl w.heap.size rfl 43 _ (0, 0) _ HX.h underlying43 rfl aP ?_
 obtain ⟨ia, iH, jV⟩ := HX.h8
 refine wpList_store_row rfl 43 _ _ rfl (w.heap.size + 1) _ rfl rfl 43 ia jV aP iH (ix ..) ?_
 go_wp2
 (try simp only [Exit.inBlock, Exit.then])
 refine bodyPost_ret (v := .tuple #[.agg #[Value.int .i64 s.first, .int .i64 s.aa, .slice q.Q1 s.aw.length q.c1, .slice q.Q2 s.aj.length q.c2, .slice q.Q3 s.saved.length q.c3, .int .i64 s.seq, .int .i64 s.block, .int .i64 s.slot, .slice q.Q4 q.n4 q.c4, .slice q.Q5 q.n5 q.c5, .int .i64 q.pg, .int .i64 q.er, .int .i64 q.nb, .int .i64 q.ns, .bool true], .int .i64 20]) (cM (p := 6) (u := 7) rfl _ _ (w.heap.size + 1) 43 #[Value.int .i64 s.first, .int .i64 s.aa, .slice q.Q1 s.aw.length q.c1, .slice q.Q2 s.aj.length q.c2, .slice q.Q3 s.saved.length q.c3, .int .i64 s.seq, .int .i64 s.block, .int .i64 s.slot, .slice q.Q4 q.n4 q.c4, .slice q.Q5 q.n5 q.c5, .int .i64 q.pg, .int .i64 q.er, .int .i64 q.nb, .int .i64 q.ns, .bool true] (0, 0) _ rfl (setRow_heap _ _ _ _ _ _ jV) underlying43 rfl aP) rfl ⟨rfl, below_setRow HX.below HX.Jg.2 _⟩
theorem RZ (w : World) (q : Qv) (s : St) (i v : Int) (hn : s.aw.length ≤ 48) (hi : i < 0 ∨ (s.aw.length : Int) ≤ i) :
 Calls prog 32 #[.agg #[Value.int .i64 s.first, .int .i64 s.aa, .slice q.Q1 s.aw.length q.c1, .slice q.Q2 s.aj.length q.c2, .slice q.Q3 s.saved.length q.c3, .int .i64 s.seq, .int .i64 s.block, .int .i64 s.slot, .slice q.Q4 q.n4 q.c4, .slice q.Q5 q.n5 q.c5, .int .i64 q.pg, .int .i64 q.er, .int .i64 q.nb, .int .i64 q.ns, .bool false], .int .i64 i, .int .i64 v] w fun e w' => e = .returned (.tuple #[.agg #[Value.int .i64 s.first, .int .i64 s.aa, .slice q.Q1 s.aw.length q.c1, .slice q.Q2 s.aj.length q.c2, .slice q.Q3 s.saved.length q.c3, .int .i64 s.seq, .int .i64 s.block, .int .i64 s.slot, .slice q.Q4 q.n4 q.c4, .slice q.Q5 q.n5 q.c5, .int .i64 q.pg, .int .i64 q.er, .int .i64 q.nb, .int .i64 q.ns, .bool false], .int .i64 10]) ∧ bW w w' := by
 generalize s.aw.length = n at hn hi ⊢
 obtain ⟨W, hW⟩ := ex ((w.alloc (.cells #[Value.int .i64 s.first, .int .i64 s.aa, .slice q.Q1 n q.c1, .slice q.Q2 s.aj.length q.c2, .slice q.Q3 s.saved.length q.c3, .int .i64 s.seq, .int .i64 s.block, .int .i64 s.slot, .slice q.Q4 q.n4 q.c4, .slice q.Q5 q.n5 q.c5, .int .i64 q.pg, .int .i64 q.er, .int .i64 q.nb, .int .i64 q.ns, .bool false] 43)).alloc (.cells #[.int .i64 0, .int .i64 0, .slice none 0 0, .slice none 0 0, .slice none 0 0, .int .i64 0, .int .i64 0, .int .i64 0, .slice none 0 0, .slice none 0 0, .int .i64 0, .int .i64 0, .int .i64 0, .int .i64 0, .bool false] 43))
 have HX := iD (Hx.new hW.symm ⟨_, rfl, rfl⟩)
 have tN := HX.row 14 rfl
 have r2 := HX.row 2 rfl
 by_cases h0 : i < 0
 all_goals
  have h0' : decide (i < 0) = decide (i < 0) := rfl
  have h1 : ¬ i < 0 → (n : Int) ≤ i := oM
 ·clear hi h1 h0'
  go_enter func32, ntmps32
  go_upto_region 4 with (fail)
  try rw [hW]
  clear hW
  refine wp_region_list ?_
  refine wpList_load_row rfl 43 _ rfl w.heap.size rfl 43 _ (0, 0) _ HX.h underlying43 rfl aP ?_
  obtain ⟨ia, iH, jV⟩ := HX.h8
  refine wpList_store_row rfl 43 _ _ rfl (w.heap.size + 1) _ rfl rfl 43 ia jV aP iH (ix ..) ?_
  go_wp2
  (try simp only [Exit.inBlock, Exit.then])
  refine bodyPost_ret (v := .tuple #[.agg #[Value.int .i64 s.first, .int .i64 s.aa, .slice q.Q1 n q.c1, .slice q.Q2 s.aj.length q.c2, .slice q.Q3 s.saved.length q.c3, .int .i64 s.seq, .int .i64 s.block, .int .i64 s.slot, .slice q.Q4 q.n4 q.c4, .slice q.Q5 q.n5 q.c5, .int .i64 q.pg, .int .i64 q.er, .int .i64 q.nb, .int .i64 q.ns, .bool false], .int .i64 10]) (cM (p := 6) (u := 7) rfl _ _ (w.heap.size + 1) 43 #[Value.int .i64 s.first, .int .i64 s.aa, .slice q.Q1 n q.c1, .slice q.Q2 s.aj.length q.c2, .slice q.Q3 s.saved.length q.c3, .int .i64 s.seq, .int .i64 s.block, .int .i64 s.slot, .slice q.Q4 q.n4 q.c4, .slice q.Q5 q.n5 q.c5, .int .i64 q.pg, .int .i64 q.er, .int .i64 q.nb, .int .i64 q.ns, .bool false] (0, 0) _ rfl (setRow_heap _ _ _ _ _ _ jV) underlying43 rfl aP) rfl ⟨rfl, below_setRow HX.below HX.Jg.2 _⟩
 have h2 := h1 h0
 have h3 : decide (i < 0) = false := by simpa using h0
 clear hi h1 h0'
 go_enter func32, ntmps32
 go_upto_region 4 with (fail)
 try rw [hW]
 clear hW
 refine wp_region_list ?_
 refine wpList_load_row rfl 43 _ rfl w.heap.size rfl 43 _ (0, 0) _ HX.h underlying43 rfl aP ?_
 obtain ⟨ia, iH, jV⟩ := HX.h8
 refine wpList_store_row rfl 43 _ _ rfl (w.heap.size + 1) _ rfl rfl 43 ia jV aP iH (ix ..) ?_
 go_wp2
 (try simp only [Exit.inBlock, Exit.then])
 refine bodyPost_ret (v := .tuple #[.agg #[Value.int .i64 s.first, .int .i64 s.aa, .slice q.Q1 n q.c1, .slice q.Q2 s.aj.length q.c2, .slice q.Q3 s.saved.length q.c3, .int .i64 s.seq, .int .i64 s.block, .int .i64 s.slot, .slice q.Q4 q.n4 q.c4, .slice q.Q5 q.n5 q.c5, .int .i64 q.pg, .int .i64 q.er, .int .i64 q.nb, .int .i64 q.ns, .bool false], .int .i64 10]) (cM (p := 6) (u := 7) rfl _ _ (w.heap.size + 1) 43 #[Value.int .i64 s.first, .int .i64 s.aa, .slice q.Q1 n q.c1, .slice q.Q2 s.aj.length q.c2, .slice q.Q3 s.saved.length q.c3, .int .i64 s.seq, .int .i64 s.block, .int .i64 s.slot, .slice q.Q4 q.n4 q.c4, .slice q.Q5 q.n5 q.c5, .int .i64 q.pg, .int .i64 q.er, .int .i64 q.nb, .int .i64 q.ns, .bool false] (0, 0) _ rfl (setRow_heap _ _ _ _ _ _ jV) underlying43 rfl aP) rfl ⟨rfl, below_setRow HX.below HX.Jg.2 _⟩
theorem RX (w : World) (q : Qv) (s : St) (i : Nat) (v : Int) (p : eB) (hn : s.aw.length ≤ 48) (hA : cn X w q.Q1 (bK s.aw)) (hp : s.aw[i]? = some p) (hv : v < p.lo ∨ p.hi < v) :
 Calls prog 32 #[.agg #[Value.int .i64 s.first, .int .i64 s.aa, .slice q.Q1 s.aw.length q.c1, .slice q.Q2 s.aj.length q.c2, .slice q.Q3 s.saved.length q.c3, .int .i64 s.seq, .int .i64 s.block, .int .i64 s.slot, .slice q.Q4 q.n4 q.c4, .slice q.Q5 q.n5 q.c5, .int .i64 q.pg, .int .i64 q.er, .int .i64 q.nb, .int .i64 q.ns, .bool false], .int .i64 (i : Int), .int .i64 v] w fun e w' => e = .returned (.tuple #[.agg #[Value.int .i64 s.first, .int .i64 s.aa, .slice q.Q1 s.aw.length q.c1, .slice q.Q2 s.aj.length q.c2, .slice q.Q3 s.saved.length q.c3, .int .i64 s.seq, .int .i64 s.block, .int .i64 s.slot, .slice q.Q4 q.n4 q.c4, .slice q.Q5 q.n5 q.c5, .int .i64 q.pg, .int .i64 q.er, .int .i64 q.nb, .int .i64 q.ns, .bool false], .int .i64 3]) ∧ bW w w' := by
 have hi := (List.getElem?_eq_some_iff.1 hp).1
 obtain ⟨b, off, hQ, c0, c1, c2⟩ := hA.rd.Gf hp
 rw [hQ]
 have HQ := iD hQ
 have HP := iD hp
 have HA := iD hA
 generalize s.aw.length = n at hn hi ⊢
 clear hQ hp hA
 obtain ⟨W, hW⟩ := ex ((w.alloc (.cells #[Value.int .i64 s.first, .int .i64 s.aa, .slice (some ⟨b, off, none⟩) n q.c1, .slice q.Q2 s.aj.length q.c2, .slice q.Q3 s.saved.length q.c3, .int .i64 s.seq, .int .i64 s.block, .int .i64 s.slot, .slice q.Q4 q.n4 q.c4, .slice q.Q5 q.n5 q.c5, .int .i64 q.pg, .int .i64 q.er, .int .i64 q.nb, .int .i64 q.ns, .bool false] 43)).alloc (.cells #[.int .i64 0, .int .i64 0, .slice none 0 0, .slice none 0 0, .slice none 0 0, .int .i64 0, .int .i64 0, .int .i64 0, .slice none 0 0, .slice none 0 0, .int .i64 0, .int .i64 0, .int .i64 0, .int .i64 0, .bool false] 43))
 have HX := iD (Hx.new hW.symm ⟨_, rfl, rfl⟩)
 have tN := HX.row 14 rfl
 have r2 := HX.row 2 rfl
 have HB := HX.below
 have g0 := (HB.cell (p := ⟨b, off + i * 3, none⟩) (World.block_lt_of_cell? w _ c0)).trans c0
 have g1 := (HB.cell (p := ⟨b, off + i * 3 + 1, none⟩) (World.block_lt_of_cell? w _ c1)).trans c1
 have uh := iD HB
 have SK : decide ((i : Int) < 0) = false := by simp
 have hi1 : decide (n ≤ i) = false := by simpa using hi
 by_cases h0 : v < p.lo
 ·clear hv c0 c1 c2 HB
  go_enter func32, ntmps32
  go_upto_region 6 with (fail)
  try rw [hW]
  clear hW
  refine wp_region_list ?_
  refine wpList_load_row rfl 43 _ rfl w.heap.size rfl 43 _ (0, 0) _ HX.h underlying43 rfl aP ?_
  obtain ⟨ia, iH, jV⟩ := HX.h8
  refine wpList_store_row rfl 43 _ _ rfl (w.heap.size + 1) _ rfl rfl 43 ia jV aP iH (ix ..) ?_
  go_wp2
  (try simp only [Exit.inBlock, Exit.then])
  refine bodyPost_ret (v := .tuple #[.agg #[Value.int .i64 s.first, .int .i64 s.aa, .slice (some ⟨b, off, none⟩) n q.c1, .slice q.Q2 s.aj.length q.c2, .slice q.Q3 s.saved.length q.c3, .int .i64 s.seq, .int .i64 s.block, .int .i64 s.slot, .slice q.Q4 q.n4 q.c4, .slice q.Q5 q.n5 q.c5, .int .i64 q.pg, .int .i64 q.er, .int .i64 q.nb, .int .i64 q.ns, .bool false], .int .i64 3]) (cM (p := 6) (u := 7) rfl _ _ (w.heap.size + 1) 43 #[Value.int .i64 s.first, .int .i64 s.aa, .slice (some ⟨b, off, none⟩) n q.c1, .slice q.Q2 s.aj.length q.c2, .slice q.Q3 s.saved.length q.c3, .int .i64 s.seq, .int .i64 s.block, .int .i64 s.slot, .slice q.Q4 q.n4 q.c4, .slice q.Q5 q.n5 q.c5, .int .i64 q.pg, .int .i64 q.er, .int .i64 q.nb, .int .i64 q.ns, .bool false] (0, 0) _ rfl (setRow_heap _ _ _ _ _ _ jV) underlying43 rfl aP) rfl ⟨rfl, below_setRow HX.below HX.Jg.2 _⟩
 have h2 : p.hi < v := oM
 have h3 : decide (v < p.lo) = false := by simpa using h0
 clear hv c0 c1 c2 HB
 go_enter func32, ntmps32
 go_upto_region 6 with (fail)
 try rw [hW]
 clear hW
 refine wp_region_list ?_
 refine wpList_load_row rfl 43 _ rfl w.heap.size rfl 43 _ (0, 0) _ HX.h underlying43 rfl aP ?_
 obtain ⟨ia, iH, jV⟩ := HX.h8
 refine wpList_store_row rfl 43 _ _ rfl (w.heap.size + 1) _ rfl rfl 43 ia jV aP iH (ix ..) ?_
 go_wp2
 (try simp only [Exit.inBlock, Exit.then])
 refine bodyPost_ret (v := .tuple #[.agg #[Value.int .i64 s.first, .int .i64 s.aa, .slice (some ⟨b, off, none⟩) n q.c1, .slice q.Q2 s.aj.length q.c2, .slice q.Q3 s.saved.length q.c3, .int .i64 s.seq, .int .i64 s.block, .int .i64 s.slot, .slice q.Q4 q.n4 q.c4, .slice q.Q5 q.n5 q.c5, .int .i64 q.pg, .int .i64 q.er, .int .i64 q.nb, .int .i64 q.ns, .bool false], .int .i64 3]) (cM (p := 6) (u := 7) rfl _ _ (w.heap.size + 1) 43 #[Value.int .i64 s.first, .int .i64 s.aa, .slice (some ⟨b, off, none⟩) n q.c1, .slice q.Q2 s.aj.length q.c2, .slice q.Q3 s.saved.length q.c3, .int .i64 s.seq, .int .i64 s.block, .int .i64 s.slot, .slice q.Q4 q.n4 q.c4, .slice q.Q5 q.n5 q.c5, .int .i64 q.pg, .int .i64 q.er, .int .i64 q.nb, .int .i64 q.ns, .bool false] (0, 0) _ rfl (setRow_heap _ _ _ _ _ _ jV) underlying43 rfl aP) rfl ⟨rfl, below_setRow HX.below HX.Jg.2 _⟩
theorem RY (w : World) (q : Qv) (s : St) (i : Nat) (v : Int) (p : eB) (hX : ∀ b, X b → b < w.heap.size) (hn : s.aw.length ≤ 48) (dX : s.aj.length = s.aw.length) (hA : cn X w q.Q1 (bK s.aw)) (hS : cn X w q.Q2 (aA s.aj)) (mv : s.aj.length ≤ q.c2) (rU : q.c2 ≤ maxLen) 
 (hp : s.aw[i]? = some p) (hv : p.lo ≤ v ∧ v ≤ p.hi) :
 Calls prog 32 #[.agg #[Value.int .i64 s.first, .int .i64 s.aa, .slice q.Q1 s.aw.length q.c1, .slice q.Q2 s.aj.length q.c2, .slice q.Q3 s.saved.length q.c3, .int .i64 s.seq, .int .i64 s.block, .int .i64 s.slot, .slice q.Q4 q.n4 q.c4, .slice q.Q5 q.n5 q.c5, .int .i64 q.pg, .int .i64 q.er, .int .i64 q.nb, .int .i64 q.ns, .bool false], .int .i64 (i : Int), .int .i64 v] w fun e w' => ∃ g c', e = .returned (.tuple #[.agg #[Value.int .i64 s.first, .int .i64 s.aa, .slice q.Q1 s.aw.length q.c1, .slice (some ⟨g, 0, none⟩) s.aj.length c', .slice q.Q3 s.saved.length q.c3, .int .i64 s.seq, .int .i64 s.block, .int .i64 s.slot, .slice q.Q4 q.n4 q.c4, .slice q.Q5 q.n5 q.c5, .int .i64 q.pg, .int .i64 q.er, .int .i64 q.nb, .int .i64 q.ns, .bool false], .int .i64 0]) ∧ bW w w' ∧ cn X w' (some ⟨g, 0, none⟩) (aA (s.aj.set i v)) ∧ s.aj.length ≤ c' ∧ c' ≤ maxLen := by
 have hi := (List.getElem?_eq_some_iff.1 hp).1
 obtain ⟨b, off, hQ, c0, c1, c2⟩ := hA.rd.Gf hp
 rw [hQ]
 have HQ := iD hQ
 have HP := iD hp
 have HS := iD hS
 have MI := iD hX
 obtain ⟨n, Uv⟩ := ex s.aw.length
 rw [dX]
 rw [dX] at mv
 rw [Uv] at hn hi dX mv ⊢
 have eX := iD dX
 have zk : Hid ((aA s.aj).length = n * 1) := by rw [Hid, cj, dX]; omega
 obtain ⟨x, hx⟩ := getElem?_of_lt (l := s.aj) (k := i) (by rw [dX]; exact hi)
 have HXI := iD hx
 obtain ⟨i3, vS, kB, jN, la⟩ := info_parts mr
 have nR : 0 ≤ maxLen := Nat.zero_le _
 unfold maxLen at rU
 obtain ⟨W, hW⟩ := ex ((w.alloc (.cells #[Value.int .i64 s.first, .int .i64 s.aa, .slice (some ⟨b, off, none⟩) n q.c1, .slice q.Q2 n q.c2, .slice q.Q3 s.saved.length q.c3, .int .i64 s.seq, .int .i64 s.block, .int .i64 s.slot, .slice q.Q4 q.n4 q.c4, .slice q.Q5 q.n5 q.c5, .int .i64 q.pg, .int .i64 q.er, .int .i64 q.nb, .int .i64 q.ns, .bool false] 43)).alloc (.cells #[.int .i64 0, .int .i64 0, .slice none 0 0, .slice none 0 0, .slice none 0 0, .int .i64 0, .int .i64 0, .int .i64 0, .slice none 0 0, .slice none 0 0, .int .i64 0, .int .i64 0, .int .i64 0, .int .i64 0, .bool false] 43))
 have HX := iD (Hx.new hW.symm ⟨_, rfl, rfl⟩)
 have tN := HX.row 14 rfl
 have r2 := HX.row 2 rfl
 have r3 := HX.row 3 rfl
 have HB := HX.below
 have g0 := (HB.cell (p := ⟨b, off + i * 3, none⟩) (World.block_lt_of_cell? w _ c0)).trans c0
 have g1 := (HB.cell (p := ⟨b, off + i * 3 + 1, none⟩) (World.block_lt_of_cell? w _ c1)).trans c1
 have uh := iD HB
 have SK : decide ((i : Int) < 0) = false := by simp
 have hi1 : decide (n ≤ i) = false := by simpa using hi
 obtain ⟨iG, jA⟩ := hv
 have yQ : decide (v < p.lo) = false := by simpa using iG
 have Qw : decide (p.hi < v) = false := by simpa using jA
 have ZT : (W.alloc (.cells #[] 3)).cell? ⟨w.heap.size, 3, none⟩ = some (.slice q.Q2 n q.c2) := ((bI W _).cell (p := ⟨w.heap.size, 3, none⟩) (World.block_lt_of_cell? W _ r3)).trans r3
 clear c0 c1 c2 HB Uv dX hp hA hS hX hQ hx iG jA
 go_enter func32, ntmps32
 go_upto_region 7 with (fail)
 try rw [hW]
 clear hW
 go_wp2_with (at_builtin; refine aN _ rfl _ _ 33 rfl w.heap.size 3 i3 (.int .i64 0) 1 8 underlying33 vS kB jN la rfl oM _ 0 [] rfl (World.ownsRow_lit W #[] 0 uh.size nR rfl) w.heap.size _ n q.c2 (aA s.aj) rfl ((HS.rd.below uh cV).below (bI W _) uh.size) zk (mY _) (by unfold maxLen; omega) oM (by have := uh.size; simp; omega) ?_)
 intro v5 w5 hown5 hgrow5 _
 have kd : w5.ownsRow w.heap.size 3 1 v5 n (aA s.aj) := by simpa using hown5
 have AF : Hid (Hx w w5 w.heap.size (w.heap.size + 1) #[Value.int .i64 s.first, .int .i64 s.aa, .slice (some ⟨b, off, none⟩) n q.c1, .slice q.Q2 n q.c2, .slice q.Q3 s.saved.length q.c3, .int .i64 s.seq, .int .i64 s.block, .int .i64 s.slot, .slice q.Q4 q.n4 q.c4, .slice q.Q5 q.n5 q.c5, .int .i64 q.pg, .int .i64 q.er, .int .i64 q.nb, .int .i64 q.ns, .bool false]) :=
  (HX.ab (bI W _)).grown hgrow5 (fun e => by have hk' : some W.heap.size = some w.heap.size := e; injection hk' with hk'; have := HX.lt.1; omega) (fun e => by have hk' : some W.heap.size = some (w.heap.size + 1) := e; injection hk' with hk'; have := HX.lt.2; omega) (fun k e => by have hk' : some W.heap.size = some k := e; injection hk' with hk'; have := HX.lt.1; omega)
 obtain ⟨Q, cq, rfl, Dv, A0, xv⟩ := a9 kd
 obtain ⟨g, rfl, tW, vT⟩ := xv oM
 have Te : ¬ w.heap.size = g := yE kd AF.h (by decide)
 have hD2 : ¬ w.heap.size + 1 = g := by
  obtain ⟨dZ, _, h8⟩ := AF.h8
  exact yE kd h8 (by decide)
 have hD1' : ¬ g = w.heap.size := fun e => Te e.symm
 have z3 := AF.row 3 rfl
 have zf := AF.fz 3
 have y0 := KM eX kd HXI
 have yf : w5.frozen? ⟨g, i, none⟩ = false := kd.frozenAt i
 have MS := iD kd
 clear hown5 hgrow5 kd r2 r3 tN ZT g0 g1
 go_upto_region 9 with (fail)
 have J0 : Hid (Hx w ((w5.setCell ⟨w.heap.size, 3, none⟩ (.slice (some ⟨g, 0, none⟩) n cq)).setCell ⟨g, i, none⟩ (.int .i64 v)) w.heap.size (w.heap.size + 1) #[Value.int .i64 s.first, .int .i64 s.aa, .slice (some ⟨b, off, none⟩) n q.c1, .slice (some ⟨g, 0, none⟩) n cq, .slice q.Q3 s.saved.length q.c3, .int .i64 s.seq, .int .i64 s.block, .int .i64 s.slot, .slice q.Q4 q.n4 q.c4, .slice q.Q5 q.n5 q.c5, .int .i64 q.pg, .int .i64 q.er, .int .i64 q.nb, .int .i64 q.ns, .bool false]) :=
  (AF.set 3 (.slice (some ⟨g, 0, none⟩) n cq)).LU (.int .i64 v) tW Te hD2
 have xd : Hid (((w5.setCell ⟨w.heap.size, 3, none⟩ (.slice (some ⟨g, 0, none⟩) n cq)).setCell ⟨g, i, none⟩ (.int .i64 v)).ownsRow w.heap.size 3 1 (.slice (some ⟨g, 0, none⟩) n cq) n (aA (s.aj.set i v))) :=
  sG (N8 MS Te) i v
 generalize (w5.setCell ⟨w.heap.size, 3, none⟩ (.slice (some ⟨g, 0, none⟩) n cq)).setCell ⟨g, i, none⟩ (.int .i64 v) = W9 at J0 xd ⊢
 clear z3 zf y0 yf
 refine wp_region_list ?_
 refine wpList_load_row rfl 43 _ rfl w.heap.size rfl 43 _ (0, 0) _ J0.h underlying43 rfl aP ?_
 obtain ⟨ia, iH, jV⟩ := J0.h8
 refine wpList_store_row rfl 43 _ _ rfl (w.heap.size + 1) _ rfl rfl 43 ia jV aP iH (ix ..) ?_
 go_wp2
 (try simp only [Exit.inBlock, Exit.then])
 refine bodyPost_ret (v := .tuple #[.agg #[Value.int .i64 s.first, .int .i64 s.aa, .slice (some ⟨b, off, none⟩) n q.c1, .slice (some ⟨g, 0, none⟩) n cq, .slice q.Q3 s.saved.length q.c3, .int .i64 s.seq, .int .i64 s.block, .int .i64 s.slot, .slice q.Q4 q.n4 q.c4, .slice q.Q5 q.n5 q.c5, .int .i64 q.pg, .int .i64 q.er, .int .i64 q.nb, .int .i64 q.ns, .bool false], .int .i64 0]) (cM (p := 6) (u := 7) rfl _ _ (w.heap.size + 1) 43 #[Value.int .i64 s.first, .int .i64 s.aa, .slice (some ⟨b, off, none⟩) n q.c1, .slice (some ⟨g, 0, none⟩) n cq, .slice q.Q3 s.saved.length q.c3, .int .i64 s.seq, .int .i64 s.block, .int .i64 s.slot, .slice q.Q4 q.n4 q.c4, .slice q.Q5 q.n5 q.c5, .int .i64 q.pg, .int .i64 q.er, .int .i64 q.nb, .int .i64 q.ns, .bool false] (0, 0) _ rfl (setRow_heap _ _ _ _ _ _ jV) underlying43 rfl aP) rfl ⟨g, cq, rfl, below_setRow J0.below J0.Jg.2 _, ?_, Dv, A0⟩
 refine cn.own (by rw [cj, List.length_set]; exact eX) (El xd hD2 _) (fun k hk hx => ?_)
 have e : g = k := by simpa [Value.ownBlock] using hk
 have := MI k hx
 omega
theorem F7 {q : Qv} {p : Nat} (h : iE X w q s p) (ho : bC f s) (hX : ∀ b, X b → b < w.heap.size) (i v : Int) :
 Calls prog 32 #[q.v s, .int .i64 i, .int .i64 v] w fun e w' => ∃ q' : Qv, e = .returned (.tuple #[q'.v (aU s i v), .int .i64 (ga s i v)]) ∧ iE X w' q' (aU s i v) p ∧ bW w w' := by
 have stay : ∀ k : Int, ga s i v = k → k ≠ 0 → aU s i v = s := fun k e hk => by unfold aU; rw [e, iN hk]
 by_cases hb : s.af = true
 ·have he : ga s i v = 20 := by unfold ga; rw [iP hb]
  rw [stay 20 he (by decide), he]
  have := R0 w q s i v
  unfold Qv.v
  rw [hb]
  exact this.mono fun e w' ⟨h1, h2⟩ => ⟨q, h1, h.below h2, h2⟩
 have dO : s.af = false := by simpa using hb
 by_cases hi : i < 0 ∨ (s.aw.length : Int) ≤ i
 ·have he : ga s i v = 10 := by unfold ga; rw [iN hb, iP hi]
  rw [stay 10 he (by decide), he]
  have := RZ w q s i v ho.n2 hi
  unfold Qv.v
  rw [dO]
  exact this.mono fun e w' ⟨h1, h2⟩ => ⟨q, h1, h.below h2, h2⟩
 obtain ⟨k, rfl⟩ := Int.eq_ofNat_of_zero_le (a := i) oM
 obtain ⟨pr, hp⟩ := getElem?_of_lt (l := s.aw) (k := k) oM
 have he := Hp (v := v) dO rfl oM hp
 by_cases hv : pr.lo ≤ v ∧ v ≤ pr.hi
 ·rw [iP hv] at he
  have hs : aU s k v = { s with aj := s.aj.set k v } := by unfold aU; rw [iP he, Int.toNat_natCast]
  rw [hs, he]
  have := RY w q s k v pr hX ho.n2 ho.tl h.a h.b h.b1 h.b2 hp hv
  unfold Qv.v
  rw [dO]
  refine this.mono fun e w' ⟨g, c', h1, h2, h3, h4, h5⟩ => ⟨{ q with Q2 := some ⟨g, 0, none⟩, c2 := c' }, ?_, ?_, h2⟩
  ·rw [h1]
   simp only [List.length_set, dO]
  have hl := h.below h2
  exact ⟨hl.a, hl.a1, hl.a2, h3, by simpa using h4, h5, hl.c, hl.Rf, hl.Re, hl.d1, hl.d2, hl.e1, hl.e2, fun _ e2 => ⟨(hl.wr dO e2).vr, (hl.wr dO e2).vl, (hl.wr dO e2).pr, (hl.wr dO e2).pl, (hl.wr dO e2).qA, (hl.wr dO e2).er, (hl.wr dO e2).nb, (hl.wr dO e2).ns⟩, fun _ e2 => hl.no dO e2⟩
 rw [iN hv] at he
 rw [stay 3 he (by decide), he]
 have := RX w q s k v pr ho.n2 h.a hp oM
 unfold Qv.v
 rw [dO]
 exact this.mono fun e w' ⟨h1, h2⟩ => ⟨q, h1, h.below h2, h2⟩
def Q7 (d : TypeDesc) : Bool := match d with | .struct _ | .array _ _ => true | _ => false
section
variable {fn : Func} {R : Ending → World → Prop} {a : Go.Act} {w : World} {p p' u v ty AW g g' : Nat} {t t' : TypeId} {C C' : Array Value} {d d' : TypeDesc}
theorem wV {Q : Exit → Go.Act → World → Prop} {rest : List Oper} {a' : Go.Act} (v : Value) (h : wpList prog ops Q rest a' w) (hg : o.guard = none := by exact rfl) (he : (execOp a.eval o).run prog w = .ok (.value v) w := by first | rfl | go_simp) (ha : a.put o.dst (v) = a' := by first | (simp only [nm]; rfl) | rfl) : wpList prog ops Q (o :: rest) a w := by
 subst ha
 exact wpList_plain hg fun _ hK => (by unfold Oper.wp; rw [he]; exact hK _ _ h)
theorem rI (h : fn.results = #[.cell p ty, .tmp u]) (hg : w.heap[g]? = some (.cells C t (0, 0))) (hs : (prog.info? ty).map (·.size) = some C.size) (hR : R (.returned (.tuple #[.agg C, a.tmps.getD u undef])) w) (hp : a.tmps.getD p undef = .pointer (some ⟨g, 0, none⟩) := by exact rfl) (hu : prog.underlying ty = some d := by first | exact underlying45 | exact underlying43 | exact underlying35) (hd : Q7 d = true := by exact rfl) (hf : a.defers = [] := by exact rfl) : bodyPost prog fn R .ret a w :=
 bodyPost_ret (cM h _ _ g t C (0, 0) d hp hg hu (by cases d <;> first | rfl | simp [Q7] at hd) hs) hf hR
end
structure Same (s t : St) : Prop where
 aw : t.aw = s.aw
 first : t.first = s.first
 aa : t.aa = s.aa
theorem Same.refl (s : St) : Same s s := ⟨rfl, rfl, rfl⟩
theorem Same.trans {a b c : St} (h : Same a b) (k : Same b c) : Same a c := ⟨k.aw.trans h.aw, k.first.trans h.first, k.aa.trans h.aa⟩
theorem eG (s : St) (i v : Int) : Same s (aU s i v) := by unfold aU; split <;> exact ⟨rfl, rfl, rfl⟩
theorem lK (s : St) (f : Fl) : Same s (aZ s f) := by
 unfold aZ
 obtain ⟨p1, p2, p3, _⟩ := iq (fX s f) f
 split
 ·exact ⟨p3, p1, p2⟩
 exact ⟨rfl, rfl, rfl⟩
theorem DZ (s : St) : Same s (ct s) := by unfold ct; split <;> exact ⟨rfl, rfl, rfl⟩
theorem mK (s : St) (f : Fl) : Same s (aI s f).1 := by
 unfold aI
 have h := DZ s
 split
 ·exact .refl s
 split
 ·exact .refl s
 split
 ·exact ⟨h.aw, h.first, h.aa⟩
 split
 ·exact h
 exact ⟨h.aw, h.first, h.aa⟩
theorem Hr (n : Nat) (s : St) (f : Fl) : Same s (ja n s f).1 := by
 induction n generalizing s f with
 | zero => exact .refl s
 | succ n ih =>
  rw [fq]
  split
  ·exact mK s f
  exact (mK s f).trans (ih _ _)
theorem rB (s : St) (f : Fl) : Same s (ay s f).1 := by
 unfold ay
 split
 ·exact lK s f
 exact (lK s f).trans (Hr _ _ _)
inductive TA (s : St) (q : St × Fl × Int) : Prop
 | last : q.2.2 = 0 → dW q.2.1 q.1 → q.1.bt = false → q.1.saved = s.values → q.1.aj = s.aj → TA s q
 | dead : q.2.2 = 20 → xp q.2.1 q.1 → q.1.saved = s.saved → q.1.values = s.values → TA s q
theorem dW.run (h : dW f s) (hb : s.bt = true) {n : Nat} (hn : iU s ≤ n) : TA s (ja n s f) := by
 induction n generalizing s f with
 | zero => have := qU h.ok h.br hb; omega
 | succ n ih =>
  have hs := h.step hb
  rw [fq]
  cases hs with
  | more a1 a2 a3 a4 a5 a6 a7 =>
   have hl := sI h.ok h.br hb a1 a2
   rw [iN (by rw [a1, a2]; simp)]
   cases ih a3 a4 oM with
   | last b1 b2 b3 b4 b5 => exact .last b1 b2 b3 (b4.trans a6) (b5.trans a7)
   | dead b1 b2 b3 b4 => exact .dead b1 b2 (b3.trans a5) (b4.trans a6)
  | last a1 a2 a3 a4 a5 a6 =>
   rw [iP (.inl a1)]
   exact .last a2 a3 a4 a5 a6
  | dead a1 a2 a3 a4 a5 =>
   rw [iP (.inr (by rw [a2]; decide))]
   exact .dead a2 a3 a4 a5
theorem gI (h : aO s f = 0) : (aZ s f).bt = true ∧ (aZ s f).values = s.aj ∧ (aZ s f).saved = s.saved ∧ (aZ s f).aj = s.aj ∧ (aZ s f).done = 0 := by
 obtain ⟨p1, p2, p3, p4, p5, _⟩ := iq (fX s f) f
 unfold aZ
 rw [iP h]
 exact ⟨rfl, rfl, p4, p5, rfl⟩
theorem qz (ho : bC f s) (h : aO s f = 0) : iU (aZ s f) ≤ 10 := by
 have hb := (gI h).1
 have Gz := my (f := f) ho
 have hp := Gz.pl hb
 have hk := Gz.k8
 unfold iU
 split <;> omega
theorem dW.iZ (h : dW f s) (he : aO s f ≠ 0) : aZ s f = s := by
 unfold aZ
 rw [iN he, h.UQ]
def eo (f : Fl) (s : St) (saved : List Int) (FU : Option (List Int)) : Prop :=
 s.saved = saved ∧ ((dW f s ∧ FU = if s.bt = true then some s.values else none) ∨ (xp f s ∧ FU = some s.values))
theorem eo.ok {w : Option (List Int)} (h : eo f s v w) : bC f s := by
 rcases h.2 with ⟨a, _⟩ | ⟨a, _⟩
 ·exact a.ok
 exact a.ok
theorem eo.wu {w : Option (List Int)} (h : eo f s v w) : f.ok := by
 rcases h.2 with ⟨a, _⟩ | ⟨a, _⟩
 ·exact a.wu
 exact a.wu
theorem eo.set {w : Option (List Int)} (h : eo f s v w) (hx : dI x) : eo f (aU s i x) v w := by
 obtain ⟨h1, h2⟩ := h
 rcases h2 with ⟨a, b⟩ | ⟨a, b⟩
 ·have hs : (aU s i x).saved = s.saved ∧ (aU s i x).bt = s.bt ∧ (aU s i x).values = s.values := by unfold aU; split <;> exact ⟨rfl, rfl, rfl⟩
  exact ⟨hs.1.trans h1, .inl ⟨a.set hx, by rw [hs.2.1, hs.2.2]; exact b⟩⟩
 have hs : aU s i x = s := by
  have : ga s i x = 20 := by unfold ga; rw [iP a.br]
  unfold aU
  rw [this, iN (by decide)]
 rw [hs]
 exact ⟨h1, .inr ⟨a, b⟩⟩
theorem xp.UQ (h : xp f s) : fX s f = s := by
 unfold fX
 have := h.br
 cases s
 simp_all
theorem xp.begin (h : xp f s) : aO s f = 20 ∧ aZ s f = s := by
 have he : aO s f = 20 := by unfold aO; rw [h.br, Bool.true_or, iP rfl]
 refine ⟨he, ?_⟩
 unfold aZ
 rw [he, iN (by decide), h.UQ]
theorem eo.begin {w : Option (List Int)} (h : eo f s v w) : eo f (aZ s f) v (if aO s f = 0 then some s.aj else w) := by
 obtain ⟨h1, h2⟩ := h
 rcases h2 with ⟨a, b⟩ | ⟨a, b⟩
 ·by_cases he : aO s f = 0
  ·obtain ⟨e1, e2, e3, e4, _⟩ := gI he
   rw [iP he]
   exact ⟨e3.trans h1, .inl ⟨a.begin, by rw [e1, iP rfl, e2]⟩⟩
  rw [iN he, a.iZ he]
  exact ⟨h1, .inl ⟨a, b⟩⟩
 obtain ⟨e1, e2⟩ := a.begin
 rw [e1, iN (by decide), e2]
 exact ⟨h1, .inr ⟨a, b⟩⟩
theorem eo.step {w : Option (List Int)} (h : eo f s v w) :
 if (aI s f).2.2.1 = true ∧ (aI s f).2.2.2 = 0 then ∃ u, w = some u ∧ eo (aI s f).2.1 (aI s f).1 u none else eo (aI s f).2.1 (aI s f).1 v w := by
 obtain ⟨h1, h2⟩ := h
 rcases h2 with ⟨a, b⟩ | ⟨a, b⟩
 ·by_cases hb : s.bt = true
  ·rw [iP hb] at b
   cases a.step hb with
   | more a1 a2 a3 a4 a5 a6 a7 =>
    rw [iN (by rw [a1]; simp)]
    exact ⟨a5.trans h1, .inl ⟨a3, by rw [a4, iP rfl, a6]; exact b⟩⟩
   | last a1 a2 a3 a4 a5 a6 =>
    rw [iP ⟨a1, a2⟩]
    exact ⟨_, b, a5, .inl ⟨a3, by rw [a4]; simp⟩⟩
   | dead a1 a2 a3 a4 a5 =>
    rw [iN (by rw [a1]; simp)]
    exact ⟨a4.trans h1, .inr ⟨a3, by rw [a5]; exact b⟩⟩
  have hq : aI s f = (s, f, false, 12) := by unfold aI; rw [iN (by rw [a.br]; decide), iP (by simpa using hb)]
  rw [hq, iN (by simp)]
  exact ⟨h1, .inl ⟨a, b⟩⟩
 have hq : aI s f = (s, f, false, 20) := by unfold aI; rw [iP a.br]
 rw [hq, iN (by simp)]
 exact ⟨h1, .inr ⟨a, b⟩⟩
theorem rA (h : aO s f ≠ 0) : ay s f = (aZ s f, f, aO s f) := by unfold ay; rw [iP h]
theorem Ay (s : St) (f : Fl) : (aO s f = 20 ∧ (s.af || f.aF) = true) ∨ aO s f = 14 ∨ aO s f = 12 ∨ aO s f = 3 ∨ aO s f = 0 := by
 unfold aO
 split
 ·rename_i h
  exact .inl ⟨rfl, h⟩
 split
 ·exact .inr (.inl rfl)
 split
 ·exact .inr (.inr (.inl rfl))
 unfold fU
 split
 ·exact .inr (.inr (.inr (.inl rfl)))
 exact .inr (.inr (.inr (.inr rfl)))
theorem eo.wN {w : Option (List Int)} (h : eo f s v w) :
 (((ay s f).2.2 = 0 ∧ eo (ay s f).2.1 (ay s f).1 s.aj none) ∨ ((ay s f).2.2 = 20 ∧ eo (ay s f).2.1 (ay s f).1 v (if w = none then some s.aj else w)) ∨
  ((ay s f).2.2 ≠ 0 ∧ (ay s f).2.2 ≠ 20 ∧ eo (ay s f).2.1 (ay s f).1 v w)) := by
 obtain ⟨h1, h2⟩ := h
 rcases h2 with ⟨a, b⟩ | ⟨a, b⟩
 ·by_cases he : aO s f = 0
  ·have hc : ay s f = ja 10 (aZ s f) f := by unfold ay; rw [iN (by rw [he]; decide)]
   obtain ⟨e1, e2, e3, e4, _⟩ := gI he
   obtain ⟨_, _, zW, _⟩ := jD he
   rw [zW] at b
   rw [hc]
   cases a.begin.run e1 (qz a.ok he) with
   | last b1 b2 b3 b4 b5 => exact .inl ⟨b1, b4.trans e2, .inl ⟨b2, by rw [b3]; simp⟩⟩
   | dead b1 b2 b3 b4 =>
    refine .inr (.inl ⟨b1, b3.trans (e3.trans h1), .inr ⟨b2, ?_⟩⟩)
    rw [b, b4, e2]
    simp
  rw [rA he, a.iZ he]
  rcases Ay s f with ⟨_, e⟩ | e | e | e | e
  ·rw [a.br, a.up] at e; cases e
  ·exact .inr (.inr ⟨he, by rw [e]; simp, h1, .inl ⟨a, b⟩⟩)
  ·exact .inr (.inr ⟨he, by rw [e]; simp, h1, .inl ⟨a, b⟩⟩)
  ·exact .inr (.inr ⟨he, by rw [e]; simp, h1, .inl ⟨a, b⟩⟩)
  exact absurd e he
 obtain ⟨e1, e2⟩ := a.begin
 rw [rA (by rw [e1]; decide), e1, e2]
 refine .inr (.inl ⟨rfl, h1, .inr ⟨a, ?_⟩⟩)
 rw [b]
 simp
theorem dW.fl (h : dW f s) (hi : g.img = f.img) (hp : g.pg = f.pg) (hw : g.ar = f.ar) (hd : g.aF = f.aF) (dc : g.ok) : dW g s := by
 have nn : ∀ x, aB g x = aB f x := fun x => by unfold aB; rw [hi]
 have Ni : ∀ b j, aG s g b j = aG s f b j := fun b j => by unfold aG; rw [hp]
 refine ⟨dc, h.ok.shape ⟨hp, by rw [hw]⟩, hd.trans h.up, h.br, fun x h1 h2 => ?_, h.new.congr rfl rfl hp (fun b j _ _ => dF rfl rfl hp (fun i _ => nn _)), h.q0, h.xr, h.uR, fun hb => ⟨(h.Bz hb).cN, (h.Bz hb).vl, (h.Bz hb).lg, (h.Bz hb).ne, (h.Bz hb).nx, (h.Bz hb).er, fun he i hi => ?_⟩⟩
 ·rw [nn]
  rw [hp] at h1 h2
  exact h.By x h1 h2
 rw [Ni, nn]
 exact (h.Bz hb).pre he i hi
theorem xp.fl (h : xp f s) (hi : g.img = f.img) (hp : g.pg = f.pg) (hw : g.ar = f.ar) (hd : g.aF = f.aF) (dc : g.ok) : xp g s := by
 have nn : ∀ x, aB g x = aB f x := fun x => by unfold aB; rw [hi]
 have hc : ∀ c, eZ f s c → eZ g s c := fun c hn => hn.congr rfl rfl hp (fun b j _ _ => dF rfl rfl hp (fun i _ => nn _))
 refine ⟨dc, h.ok.shape ⟨hp, by rw [hw]⟩, hd.trans h.dn, h.br, h.bu, fun x h1 h2 => ?_, h.new.elim (fun e => .inl (hc _ e)) (fun e => .inr ⟨hc _ e.1, e.2⟩), h.xr, h.Z4, h.q0⟩
 rw [nn]
 rw [hp] at h1 h2
 exact h.By x h1 h2
theorem eo.be {w : Option (List Int)} (h : eo f s v w) (hp : Bytes p) (hn : n < 9223372036854775808) : eo (fM f n p) s v w := by
 have dc := nY (n := n) h.wu hp hn
 obtain ⟨h1, h2⟩ := h
 rcases h2 with ⟨a, b⟩ | ⟨a, b⟩
 ·exact ⟨h1, .inl ⟨a.fl rfl rfl rfl rfl dc, b⟩⟩
 exact ⟨h1, .inr ⟨a.fl rfl rfl rfl rfl dc, b⟩⟩
theorem ik (f : Fl) : (aQ f).img = f.img ∧ (aQ f).pg = f.pg ∧ (aQ f).ar = f.ar ∧ (aQ f).aF = false := by
 unfold aQ
 split
 ·exact ⟨rfl, rfl, rfl, rfl⟩
 rename_i h
 exact ⟨rfl, rfl, rfl, by simpa using h⟩
theorem eo.again {w : Option (List Int)} (h : eo f s v w) (fh : s.aw.any fy = false) :
 cI (aQ f) s.first s.aa s.aw = 0 ∧ eo (aQ f) (aJ (aQ f) s.first s.aa s.aw) (aJ (aQ f) s.first s.aa s.aw).saved none ∧
 ((aJ (aQ f) s.first s.aa s.aw).saved = v ∨ w = some (aJ (aQ f) s.first s.aa s.aw).saved) ∧ Same s (aJ (aQ f) s.first s.aa s.aw) := by
 obtain ⟨i1, i2, i3, i4⟩ := ik f
 have dc := me h.wu
 obtain ⟨h1, h2⟩ := h
 have key : ∀ cur, eZ f s cur → bC f s → (∀ x, s.first * f.pg ≤ x → x < (s.first + s.aa) * f.pg → rH (aB f x)) → (∀ q b j v, cur = some (q, b, j, v) → Lg s.aw v) →
  ((∀ q b j u, cur = some (q, b, j, u) → u = v ∨ w = some u) ∧ (cur = none → s.aw.map eB.df = v)) →
  cI (aQ f) s.first s.aa s.aw = 0 ∧ eo (aQ f) (aJ (aQ f) s.first s.aa s.aw) (aJ (aQ f) s.first s.aa s.aw).saved none ∧
  ((aJ (aQ f) s.first s.aa s.aw).saved = v ∨ w = some (aJ (aQ f) s.first s.aa s.aw).saved) ∧ Same s (aJ (aQ f) s.first s.aa s.aw) := by
  intro cur hn ho ht hl hv
  obtain ⟨e1, e2⟩ := yH hn ho i1 i2 (by rw [i3]) dc i4 ht fh hl
  refine ⟨e1, ⟨rfl, .inl ⟨e2.live, by rw [e2.bt]; simp⟩⟩, ?_, ⟨e2.aw, e2.first, e2.aa⟩⟩
  cases cur with
  | none => exact .inl ((e2.no rfl).1.trans (hv.2 rfl))
  | some c =>
   obtain ⟨q, b, j, u⟩ := c
   have hr := e2.rc
   unfold fW at hr
   split at hr
   ·cases hr
   injection hr with hr
   simp only [Prod.mk.injEq] at hr
   rw [hr.2.2.2]
   exact hv.1 q b j u rfl
 have kX : ∀ (l : Lg s.aw s.saved), ∀ q b j u, fW s = some (q, b, j, u) → Lg s.aw u ∧ u = s.saved := by
  intro l q b j u e
  unfold fW at e
  split at e
  ·cases e
  injection e with e
  simp only [Prod.mk.injEq] at e
  rw [← e.2.2.2]
  exact ⟨l, rfl⟩
 have SR : ∀ (hq : s.slot = -1 → s.saved = s.aw.map eB.df), fW s = none → s.aw.map eB.df = v := by
  intro hq e
  unfold fW at e
  split at e
  ·rename_i e'
   rw [← hq e', h1]
  cases e
 rcases h2 with ⟨a, b⟩ | ⟨a, b⟩
 ·exact key _ a.new a.ok a.By (fun q b j u e => (kX a.xr q b j u e).1) ⟨fun q b j u e => .inl ((kX a.xr q b j u e).2.trans h1), SR (fun e => (a.q0 e).2.2)⟩
 rcases a.new with hn | ⟨hn, _⟩
 ·exact key _ hn a.ok a.By (fun q b j u e => (kX a.xr q b j u e).1) ⟨fun q b j u e => .inl ((kX a.xr q b j u e).2.trans h1), SR (fun e => (a.q0 e).2)⟩
 have hwv := b
 refine key _ hn a.ok a.By (fun q b j u e => ?_) ⟨fun q b j u e => ?_, fun e => by cases e⟩
 ·injection e with e
  simp only [Prod.mk.injEq] at e
  rw [← e.2.2.2]
  exact a.Z4
 injection e with e
 simp only [Prod.mk.injEq] at e
 right
 rw [← e.2.2.2]
 exact hwv
theorem eo.first (hf : f.ok) (cB : ∀ x, x < f.ar.length * f.pg → aB f x = cL) (hs : ∀ p ∈ sp, p.ok) (he : cI f fi bl sp = 0) :
 eo f (aJ f fi bl sp) (sp.map eB.df) none ∧ dW f (aJ f fi bl sp) ∧ (aJ f fi bl sp).saved = sp.map eB.df ∧ (aJ f fi bl sp).aj = sp.map eB.df ∧ (aJ f fi bl sp).bt = false ∧ (aJ f fi bl sp).slot = -1 ∧ (aJ f fi bl sp).block = 0 ∧ (aJ f fi bl sp).aw = sp ∧ (aJ f fi bl sp).first = fi ∧ (aJ f fi bl sp).aa = bl := by
 obtain ⟨hd, b2, Zf, f0, f1, n1, K0, fh, uS⟩ := jm he
 have dc := kv hs he
 obtain ⟨s0, fp⟩ := ex (dM fi bl sp)
 have LB : ∀ b j, b < s0.aa → j < bm s0 f → eV f s0 b j = none := by
  intro b j h1 h2
  have hk : s0.k = cN sp.length := by rw [← fp]; rfl
  have ux := j7 n1
  have hT : bm s0 f = f.pg / cN sp.length := by rw [← fp]; rfl
  have OQ : s0.aa = bl := by rw [← fp]; rfl
  rw [OQ] at h1
  rw [hT] at h2
  have h3 : (j + 1) * cN sp.length ≤ f.pg := by
   have := Nat.mul_le_mul_right (cN sp.length) (show j + 1 ≤ f.pg / cN sp.length by omega)
   exact Nat.le_trans this (Nat.div_mul_le_self _ _)
  rw [Nat.add_mul, Nat.one_mul] at h3
  have h4 : (fi + b + 1) * f.pg ≤ f.ar.length * f.pg := Nat.mul_le_mul_right _ oM
  rw [Nat.add_mul (fi + b), Nat.one_mul] at h4
  have hp : aG s0 f b j = (fi + b) * f.pg + j * cN sp.length := by unfold aG; rw [hk, ← fp]; rfl
  refine ks (i := 0) oM ?_
  rw [hp, cB _ oM]
  exact kT
 have hn : eZ f s0 none := LB
 have gH := kx (f := f) (s0 := s0) (by rw [← fp]; rfl) hn
 simp only at gH
 have ht : aJ f fi bl sp = { s0 with aj := s0.saved } := by
  unfold aJ
  rw [fp, show f.pg / cN sp.length = bm s0 f by rw [← fp]; rfl, show bl = s0.aa by rw [← fp]; rfl, gH]
 rw [ht] at dc ⊢
 have e1 : s0.slot = -1 := by rw [← fp]; rfl
 have e2 : s0.saved = sp.map eB.df := by rw [← fp]; rfl
 have e3 : s0.block = 0 := by rw [← fp]; rfl
 have e4 : s0.bt = false := by rw [← fp]; rfl
 have e5 : s0.af = false := by rw [← fp]; rfl
 have e6 : s0.first = fi := by rw [← fp]; rfl
 have e7 : s0.aa = bl := by rw [← fp]; rfl
 have e8 : s0.aw = sp := by rw [← fp]; rfl
 have e9 : s0.seq = 0 := by rw [← fp]; rfl
 have qq : fW { s0 with aj := s0.saved } = none := by unfold fW; rw [iP e1]
 have Cq : dW f { s0 with aj := s0.saved } := by
  refine ⟨hf, dc, hd, e5, fun x h1 h2 => ?_, ?_, fun _ => ⟨e9, e3, by simp only [e8]; exact e2⟩, by simp only [e8, e2]; exact tR fh, by simp only [e8, e2]; exact tR fh, fun e => by simp only [e4] at e; cases e⟩
  ·simp only [e6, e7] at h2
   have : (fi + bl) * f.pg ≤ f.ar.length * f.pg := Nat.mul_le_mul_right _ oM
   rw [cB x oM]
   exact rH.blank
  rw [qq]
  exact hn.congr rfl rfl rfl (fun b j _ _ => dF rfl rfl rfl (fun _ _ => rfl))
 exact ⟨⟨e2, .inl ⟨Cq, by simp only [e4]; simp⟩⟩, Cq, e2, e2, e4, e1, e3, e8, e6, e7⟩
section
variable {f g : Fl} (h : fE f g)
include h
theorem fE.BG (s : St) : bm s g = bm s f := by unfold bm; rw [h.pg]
theorem fE.aG (s : St) (b j : Nat) : YtjdknddnanopaaaGreat.aG s g b j = YtjdknddnanopaaaGreat.aG s f b j := by unfold YtjdknddnanopaaaGreat.aG; rw [h.pg]
theorem fE.cf (a n : Nat) : bT g a n = bT f a n := by
 unfold bT
 congr 1
 funext i
 exact h.page _
theorem fE.blank (a n : Nat) : cG g a n = cG f a n := by
 unfold cG
 congr 1
 funext i
 rw [h.page]
theorem fE.free (s : St) : jW s g = jW s f := by
 unfold jW
 rw [h.BG]
 congr 1
 funext j
 rw [h.aG, h.blank]
theorem fE.place (s : St) : bj s g = bj s f := by
 unfold bj
 rw [h.free, h.aG, h.blank, h.pg]
theorem fE.UQ (s : St) : fX s g = fX s f := by unfold fX; rw [h.aF]
theorem fE.aO (s : St) : YtjdknddnanopaaaGreat.aO s g = YtjdknddnanopaaaGreat.aO s f := by unfold YtjdknddnanopaaaGreat.aO; rw [h.aF]
theorem fE.aZ (s : St) : YtjdknddnanopaaaGreat.aZ s g = YtjdknddnanopaaaGreat.aZ s f := by
 unfold YtjdknddnanopaaaGreat.aZ
 rw [h.aO, h.UQ, h.place]
theorem fE.op (s : St) : (eW s g).2 = (eW s f).2 ∧ fE (eW s f).1 (eW s g).1 := by
 unfold eW
 split
 ·exact h.erase _
 rw [h.aG]
 exact h.prog _ _
theorem fE.step (s : St) : (aI s g).1 = (aI s f).1 ∧ (aI s g).2.2 = (aI s f).2.2 ∧ fE (aI s f).2.1 (aI s g).2.1 := by
 obtain ⟨h1, h2⟩ := h.op s
 unfold aI
 rw [h1]
 split
 ·exact ⟨rfl, rfl, h⟩
 split
 ·exact ⟨rfl, rfl, h⟩
 split
 ·exact ⟨rfl, rfl, h2⟩
 split
 ·exact ⟨rfl, rfl, h2⟩
 exact ⟨rfl, rfl, h2⟩
end
theorem fE.run (h : fE f g) (n : Nat) (s : St) : (ja n s g).1 = (ja n s f).1 ∧ (ja n s g).2.2 = (ja n s f).2.2 ∧ fE (ja n s f).2.1 (ja n s g).2.1 := by
 induction n generalizing s f g with
 | zero => exact ⟨rfl, rfl, h⟩
 | succ n ih =>
  obtain ⟨h1, h2, h3⟩ := h.step s
  rw [fq, fq, h1, h2]
  split
  ·exact ⟨rfl, rfl, h3⟩
  exact ih h3 _
theorem fE.wN (h : fE f g) (s : St) : (ay s g).1 = (ay s f).1 ∧ (ay s g).2.2 = (ay s f).2.2 ∧ fE (ay s f).2.1 (ay s g).2.1 := by
 unfold ay
 rw [h.aO, h.aZ]
 split
 ·exact ⟨rfl, rfl, h⟩
 exact h.run 10 _
theorem fE.cI (h : fE f g) (a b : Int) (sp : List eB) : YtjdknddnanopaaaGreat.cI g a b sp = YtjdknddnanopaaaGreat.cI f a b sp := by
 unfold YtjdknddnanopaaaGreat.cI
 rw [h.aF, h.ar, h.pg]
theorem fE.cT (h : fE f g) (s : St) (b j : Nat) : YtjdknddnanopaaaGreat.cT g s b j = YtjdknddnanopaaaGreat.cT f s b j := by
 unfold YtjdknddnanopaaaGreat.cT
 rw [h.aG, h.cf]
theorem fE.ee (h : fE f g) (b : Nat) (s : St) (n : Nat) : YtjdknddnanopaaaGreat.ee g b s n = YtjdknddnanopaaaGreat.ee f b s n := by
 induction n with
 | zero => rfl
 | succ n ih => rw [dR, dR, ih, h.cT]
theorem fE.cR (h : fE f g) (n : Nat) (s : St) (m : Nat) : YtjdknddnanopaaaGreat.cR g n s m = YtjdknddnanopaaaGreat.cR f n s m := by
 induction m with
 | zero => rfl
 | succ m ih => rw [fa, fa, ih, h.ee]
theorem fE.aJ (h : fE f g) (a b : Nat) (sp : List eB) : YtjdknddnanopaaaGreat.aJ g a b sp = YtjdknddnanopaaaGreat.aJ f a b sp := by
 unfold YtjdknddnanopaaaGreat.aJ
 rw [h.pg, h.cR]
theorem mg (s : St) (i v : Int) : (aU s i v).seq = s.seq := by unfold aU; split <;> rfl
theorem nj (s : St) (f : Fl) : (aZ s f).seq = s.seq := by
 unfold aZ
 obtain ⟨_, _, _, _, _, p, _⟩ := iq (fX s f) f
 split
 ·exact p
 rfl
theorem He (s : St) : (ct s).seq = s.seq := by unfold ct; split <;> rfl
theorem su (s : St) (f : Fl) : (aI s f).1.seq = s.seq + if (aI s f).2.2.1 = true then 1 else 0 := by
 unfold aI
 have h := He s
 split
 ·simp
 split
 ·simp
 split
 ·simp only [Bool.false_eq_true, if_false, Int.add_zero]; exact h
 split
 ·simp only [Bool.false_eq_true, if_false, Int.add_zero]; exact h
 simp only [kM, if_true, h]
theorem Kw (n : Nat) (s : St) (f : Fl) : (ja n s f).1.seq ≤ s.seq + 1 := by
 induction n generalizing s f with
 | zero => simp only [ja]; omega
 | succ n ih =>
  have h := su s f
  rw [fq]
  split
  ·simp only
   rw [h]
   split <;> omega
  rename_i hc
  have hd : ¬ (aI s f).2.2.1 = true := fun e => hc (.inl e)
  rw [iN hd] at h
  have := ih (aI s f).1 (aI s f).2.1
  omega
theorem og (s : St) (f : Fl) : (ay s f).1.seq ≤ s.seq + 1 := by
 unfold ay
 split
 ·rw [nj]; omega
 have := Kw 10 (aZ s f) f
 rw [nj] at this
 exact this
def gz (f : Fl) (s : St) (n : Int) : Prop := (∃ v o, eo f s v o) ∧ s.seq ≤ n
theorem gz.ok (h : gz f s n) : bC f s := by
 obtain ⟨⟨v, o, h⟩, _⟩ := h
 exact h.ok
theorem gz.wu (h : gz f s n) : f.ok := by
 obtain ⟨⟨v, o, h⟩, _⟩ := h
 exact h.wu
theorem gz.more {m : Int} (h : gz f s n) (hm : n ≤ m) : gz f s m := ⟨h.1, Int.le_trans h.2 hm⟩
theorem gz.set (h : gz f s n) (hx : dI x) : gz f (aU s i x) n := by
 obtain ⟨⟨v, o, h⟩, h2⟩ := h
 exact ⟨⟨v, o, h.set hx⟩, by rw [mg]; exact h2⟩
theorem gz.begin (h : gz f s n) : gz f (aZ s f) n := by
 obtain ⟨⟨v, o, h⟩, h2⟩ := h
 exact ⟨⟨_, _, h.begin⟩, by rw [nj]; exact h2⟩
theorem gz.step (h : gz f s n) : gz (aI s f).2.1 (aI s f).1 (n + 1) := by
 obtain ⟨⟨v, o, h⟩, h2⟩ := h
 refine ⟨?_, by rw [su]; split <;> omega⟩
 have h3 := h.step
 split at h3
 ·obtain ⟨u, _, h3⟩ := h3
  exact ⟨_, _, h3⟩
 exact ⟨_, _, h3⟩
theorem gz.wN (h : gz f s n) : gz (ay s f).2.1 (ay s f).1 (n + 1) := by
 obtain ⟨⟨v, o, h⟩, h2⟩ := h
 refine ⟨?_, by have := og s f; omega⟩
 rcases h.wN with ⟨_, h3⟩ | ⟨_, h3⟩ | ⟨_, _, h3⟩
 ·exact ⟨_, _, h3⟩
 ·exact ⟨_, _, h3⟩
 exact ⟨_, _, h3⟩
theorem gz.be (h : gz f s n) {k : Int} (hp : Bytes p) (hk : k < 9223372036854775808) : gz (fM f k p) s n := by
 obtain ⟨⟨v, o, h⟩, h2⟩ := h
 exact ⟨⟨_, _, h.be hp hk⟩, h2⟩
theorem gz.again (h : gz f s n) (fh : s.aw.any fy = false) :
 cI (aQ f) s.first s.aa s.aw = 0 ∧ gz (aQ f) (aJ (aQ f) s.first s.aa s.aw) (n + 1) ∧ Same s (aJ (aQ f) s.first s.aa s.aw) := by
 obtain ⟨⟨v, o, h⟩, h2⟩ := h
 obtain ⟨a1, a2, a3, a4⟩ := h.again fh
 refine ⟨a1, ⟨⟨_, _, a2⟩, ?_⟩, a4⟩
 obtain ⟨i1, i2, i3, i4⟩ := ik f
 have key : ∀ cur, eZ f s cur → bC f s → (∀ x, s.first * f.pg ≤ x → x < (s.first + s.aa) * f.pg → rH (aB f x)) → (∀ q b j v, cur = some (q, b, j, v) → Lg s.aw v) →
  (∀ q b j u, cur = some (q, b, j, u) → q ≤ s.seq + 1) → (aJ (aQ f) s.first s.aa s.aw).seq ≤ s.seq + 1 := by
  intro cur hn ho ht hl hv
  obtain ⟨e1, e2⟩ := yH hn ho i1 i2 (by rw [i3]) (me h.wu) i4 ht fh hl
  have hr := e2.rc
  have hq := ho.q1
  unfold fW at hr
  split at hr
  ·rename_i lR
   have := (e2.live.q0 lR).1
   omega
  exact hv _ _ _ _ hr.symm
 have kX : ∀ q b j u, fW s = some (q, b, j, u) → q = s.seq ∧ u = s.saved := by
  intro q b j u e
  unfold fW at e
  split at e
  ·cases e
  injection e with e
  simp only [Prod.mk.injEq] at e
  exact ⟨e.1.symm, e.2.2.2.symm⟩
 have goal : (aJ (aQ f) s.first s.aa s.aw).seq ≤ s.seq + 1 := by
  rcases h.2 with ⟨a, _⟩ | ⟨a, _⟩
  ·exact key _ a.new a.ok a.By (fun q b j u e => by rw [(kX q b j u e).2]; exact a.xr) (fun q b j u e => by rw [(kX q b j u e).1]; omega)
  rcases a.new with hn | hn
  ·exact key _ hn a.ok a.By (fun q b j u e => by rw [(kX q b j u e).2]; exact a.xr) (fun q b j u e => by rw [(kX q b j u e).1]; omega)
  refine key _ hn.1 a.ok a.By (fun q b j u e => ?_) (fun q b j u e => ?_)
  ·injection e with e
   simp only [Prod.mk.injEq] at e
   rw [← e.2.2.2]
   exact a.Z4
  injection e with e
  simp only [Prod.mk.injEq] at e
  omega
 omega
theorem gz.first (hf : f.ok) (cB : ∀ x, x < f.ar.length * f.pg → aB f x = cL) (hs : ∀ p ∈ sp, p.ok) (he : cI f fi bl sp = 0) :
 gz f (aJ f fi bl sp) 0 ∧ (aJ f fi bl sp).bt = false ∧ (aJ f fi bl sp).aw = sp ∧ (aJ f fi bl sp).first = fi ∧ (aJ f fi bl sp).aa = bl := by
 obtain ⟨h1, h2, _, _, h3, h4, _, h5, h6, h7⟩ := eo.first hf cB hs he
 exact ⟨⟨⟨_, _, h1⟩, by rw [(h2.q0 h4).1]; exact Int.le_refl _⟩, h3, h5, h6, h7⟩
theorem gz.br (h : gz f s n) : s.af = f.aF := by
 obtain ⟨⟨v, o, _, h⟩, _⟩ := h
 rcases h with ⟨a, _⟩ | ⟨a, _⟩
 ·rw [a.br, a.up]
 rw [a.br, a.dn]
theorem gz.enc (h : gz f s n) (hn : n < 1000000) : fU (s.seq + 1) s.aj.length = 0 := by
 have ho := h.ok
 have := ho.q1
 have := ho.n1
 have := ho.n2
 have := ho.tl
 have := h.2
 unfold fU
 rw [iN oM]
end Go.Proofs.YtjdknddnanopaaaGreat
