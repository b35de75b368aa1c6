/-
  Part 10 of the proof.
-/
import Derived.Laws.Rows
import Derived.Laws.CopyOwn
import Derived.Laws.Tables
import Derived.Test.YtjdknddnanopaaaGreatQ9
namespace Go.Proofs.YtjdknddnanopaaaGreat
open Go.RowKit Tryz
set_option maxRecDepth 100000
set_option maxHeartbeats 16000000
set_option linter.all false
variable {f g : Fl} {s : St} {w w' : World} {i n x : Int} {l p v : List Int} {B D base bl e fi k : Nat} {xs : List Value} {X : Nat → Prop} {P : Program} {ops : Array Oper} {o : Oper} {u : Value} {sp : List eB}
theorem KN {g n cap : Nat} (hl : l.length = n) (h : w.ownsRow base e 1 (.slice (some ⟨g, 0, none⟩) n cap) n (aw l)) (hx : l[k]? = some x) : w.cell? ⟨g, k, none⟩ = some (.int .i64 x) := by
 have := (List.getElem?_eq_some_iff.1 hx).1
 rw [h.cellAt k oM]
 simp [aw, hx]
theorem sG {g n cap : Nat} (h : w.ownsRow base e 1 (.slice (some ⟨g, 0, none⟩) n cap) n (aw l)) (k : Nat) (x : Int) :
 (w.setCell ⟨g, k, none⟩ (.int .i64 x)).ownsRow base e 1 (.slice (some ⟨g, 0, none⟩) n cap) n (aw (l.set k x)) := by
 have : aw (l.set k x) = (aw l).set k (.int .i64 x) := by simp [aw]
 rw [this]
 exact (h.stored k (.int .i64 x)).1
theorem BY {b b' size n : Nat} {v : Value} (h : w.ownsRow b e size v n xs) (hb : b' ≤ b) : w.ownsRow b' e size v n xs := by
 rcases h.2 with h2 | ⟨g, cap, cur, h2, h3, h4⟩
 ·exact ⟨h.1, .inl h2⟩
 exact ⟨h.1, .inr ⟨g, cap, cur, h2, Nat.le_trans hb h3, h4⟩⟩
theorem ux (w : World) (t ty e : TypeId) (i : TypeInfo) (z : Value) (size bytes : Nat) (ht : P.underlying t = some (.slice e)) (hi : P.info? e = some i) (hz : i.zero = some z) 
 (gJ : i.size = size) (uc : i.bytes = bytes) (Cd : z.cells.size = size) (hsz : 0 < size)
 (q : Addr) (B : Nat) (A : Option Addr) (m c : Nat) (news : List Value) (hr : Rd w B A news) (hl : news.length = m * size) (h1 : ∀ u ∈ news, u.oneCell' = true) (hm : 0 < m)
 (JW : m ≤ maxLen) (kG : m * bytes ≤ 140737488355328) :
 ∃ v' w', (Builtin.append_ #[t, t] ty #[.slice (some q) 0 0, .slice A m c]).run P w = .ok v' w' ∧ w'.ownsRow w.heap.size e size v' m news ∧ bW w w' := by
 subst gJ
 subst uc
 have fR : news ≠ [] := by
  rintro rfl
  have := Nat.mul_pos hm hsz
  rw [List.length_nil] at hl
  omega
 obtain ⟨b, off, rfl, hbB, hc⟩ := hr fR
 have sS : ∀ j u, news[j]? = some u → w.cell? ((⟨b, off, none⟩ : Addr).add j) = some u := by
  intro j u hu
  rw [Addr.add_lit]
  exact hc j u hu
 have JO : m ≤ 9223372036854775807 := by simp only [maxLen] at JW; omega
 have nP := run_append_grow (P := P) (w := w) t ty e i z ht hi hz q 0 0 [] (by simp) (fun j v hv => by simp at hv) ⟨b, off, none⟩ m c news hl sS oM oM (growslice_fits oM (by rw [Nat.zero_add]; exact kG))
 simp only [Nat.zero_add, Array.empty_append] at nP
 refine ⟨_, _, nP, ⟨hl, .inr ⟨w.heap.size, _, _, rfl, Nat.le_refl _, heap_alloc_new w.drew _, grownCap_ge w m 0 e, grownCap_le_maxLen w m 0 e JW, ?_, ?_⟩⟩, Below.alloc (Below.drew bV) cV _⟩
 ·have Uj := grownCap_ge w m 0 e
  simp only [Array.size_append, List.size_toArray, size_zeroCells, Cd, hl, ← Nat.add_mul]
  congr 1
  omega
 simp only [Array.toList_append]
 rw [← hl]
 simp
theorem l7 {a : Act} {K : Act → World → Prop} {Q : Exit → Act → World → Prop} {E : Prop} 
 (hg : o.guard = none) (s x : Operand) (t : TypeId) (ho : o.op = .call { callee := .builtin .append, args := #[s, x], argTypes := #[t, t] })
 (e : TypeId) (i : TypeInfo) (z : Value) (size bytes : Nat) (ht : P.underlying t = some (.slice e)) (hi : P.info? e = some i) (hz : i.zero = some z)
 (gJ : i.size = size) (uc : i.bytes = bytes) (Cd : z.cells.size = size) (hsz : 0 < size)
 (q : Addr) (hs : a.eval s = .slice (some q) 0 0)
 (B : Nat) (A : Option Addr) (m c : Nat) (news : List Value) (hx : a.eval x = .slice A m c) (hr : Rd w B A news) (hl : news.length = m * size) (h1 : ∀ u ∈ news, u.oneCell' = true) (hm : 0 < m)
 (JW : m ≤ maxLen) (kG : m * bytes ≤ 140737488355328)
 (h : ∀ v' w', w'.ownsRow w.heap.size e size v' m news → bW w w' → K (a.put o.dst v') w') :
 if Region.wanted o (yielded ops a.tmps) = true then Oper.wp P o a w K Q else E := by
 have hw : Region.wanted o (yielded ops a.tmps) = true := by simp [Region.wanted, hg]
 rw [iP hw]
 obtain ⟨v', w', nP, h2, h3⟩ := ux (P := P) w t o.type e i z size bytes ht hi hz gJ uc Cd hsz q B A m c news hr hl h1 hm JW kG
 unfold Oper.wp execOp
 simp only [ho, resolve, invoke, builtin, Sem.run_bind, Sem.run_pure, Result.andThen_ok, List.map_toArray, List.map_cons, List.map_nil, hs, hx, nP]
 exact h v' w' h2 h3
theorem ql {x : Rc} (h : cf X w x g) (hX : ∀ b, X b → b < w.heap.size) (block : Int) :
 Calls prog 26 #[x.v g, .int .i64 block] w fun e w' => ∃ y : Rc, e = .returned (.tuple #[y.v (aT g block).1, .int .i64 (aT g block).2]) ∧ cf X w' y (aT g block).1 ∧ bW w w' := by
 have dc := kr (block := block) h.ok
 have H := iD h
 have HX := iD hX
 have qg := h.b2
 have lG := h.ok.b2
 unfold maxLen at qg
 obtain ⟨A, c, B, d, P, r⟩ := x
 simp only at qg
 show Calls prog 26 #[.agg #[.slice A g.img.length c, .int .i64 g.pg, .slice B g.aq.length d, .bool g.aF, .int .i64 g.be, .slice P g.az.length r], _] w _
 obtain ⟨V, hV⟩ := ex ((w.alloc (.cells #[.slice A g.img.length c, .int .i64 g.pg, .slice B g.aq.length d, .bool g.aF, .int .i64 g.be, .slice P g.az.length r] 35)).alloc (.cells Bh 35))
 have pG : Hid (bW w V) := by rw [← hV]; exact ck _ _ _
 have h6 := uO w (.slice A g.img.length c) (.int .i64 g.pg) (.slice B g.aq.length d) (.bool g.aF) (.int .i64 g.be) (.slice P g.az.length r) (.slice none 0 0) (.int .i64 0) (.slice none 0 0) (.bool false) (.int .i64 0) (.slice none 0 0) 35 35
 rw [hV] at h6
 have H6 := iD h6
 have hgV : w.heap.size + 1 < V.heap.size := h6.2.lt
 unfold aT
 by_cases hd : g.aF = true
 ·rw [iP hd]
  have qc : g.aF = true := hd
  clear h hX h6 dc hd
  obtain ⟨a0, a1, a2, a3, a4, a5, a6⟩ := H6.1
  obtain ⟨b0, b1, b2, b3, b4, b5, b6⟩ := H6.2
  have e0 := b6 0
  have e1 := b6 1
  have e2 := b6 2
  have e3 := b6 3
  have e4 := b6 4
  have e5 := b6 5
  clear a6 b6
  go_enter func26, ntmps26
  go_upto_region 1 with (fail)
  try rw [hV]
  clear hV
  go_wp2
  (try simp only [Exit.inBlock, Exit.then])
  refine bodyPost_ret (v := .tuple #[(Rc.mk A c B d P r).v g, .int .i64 20]) ?_ rfl ⟨⟨A, c, B, d, P, r⟩, rfl, cf.cX (X := X2 X w.heap.size) ?_ (fun _ => .inl), ?_⟩
  ·rw [results_cell_tmp rfl]
   simp only [Rc.v]
   go_simp
  ·(repeat (refine cf.setCell ?_ _ _ (by first | exact fj _ _ | exact jl _ _)))
   exact H.two.below (ck _ _ _)
  (repeat (refine Below.setCell ?_ (by simp only; omega) _))
  exact ck _ _ _
 rw [iN hd]
 by_cases hout : block < 0 ∨ (g.aq.length : Nat) ≤ block
 ·rw [iP hout]
  have qc : g.aF = false := by simpa using hd
  by_cases VV : block < 0
  ·clear h hX h6 dc hd hout
   obtain ⟨a0, a1, a2, a3, a4, a5, a6⟩ := H6.1
   obtain ⟨b0, b1, b2, b3, b4, b5, b6⟩ := H6.2
   have e0 := b6 0
   have e1 := b6 1
   have e2 := b6 2
   have e3 := b6 3
   have e4 := b6 4
   have e5 := b6 5
   clear a6 b6
   go_enter func26, ntmps26
   go_upto_region 1 with (fail)
   try rw [hV]
   clear hV
   go_wp2
   (try simp only [Exit.inBlock, Exit.then])
   refine bodyPost_ret (v := .tuple #[(Rc.mk A c B d P r).v g, .int .i64 10]) ?_ rfl ⟨⟨A, c, B, d, P, r⟩, rfl, cf.cX (X := X2 X w.heap.size) ?_ (fun _ => .inl), ?_⟩
   ·rw [results_cell_tmp rfl]
    simp only [Rc.v]
    go_simp
   ·(repeat (refine cf.setCell ?_ _ _ (by first | exact fj _ _ | exact jl _ _)))
    exact H.two.below (ck _ _ _)
   (repeat (refine Below.setCell ?_ (by simp only; omega) _))
   exact ck _ _ _
  have Uj : (g.aq.length : Int) ≤ block := oM
  have hneg' : decide (block < 0) = false := by simpa using VV
  clear h hX h6 dc hd hout VV
  obtain ⟨a0, a1, a2, a3, a4, a5, a6⟩ := H6.1
  obtain ⟨b0, b1, b2, b3, b4, b5, b6⟩ := H6.2
  have e0 := b6 0
  have e1 := b6 1
  have e2 := b6 2
  have e3 := b6 3
  have e4 := b6 4
  have e5 := b6 5
  clear a6 b6
  go_enter func26, ntmps26
  go_upto_region 1 with (fail)
  try rw [hV]
  clear hV
  go_wp2
  (try simp only [Exit.inBlock, Exit.then])
  refine bodyPost_ret (v := .tuple #[(Rc.mk A c B d P r).v g, .int .i64 10]) ?_ rfl ⟨⟨A, c, B, d, P, r⟩, rfl, cf.cX (X := X2 X w.heap.size) ?_ (fun _ => .inl), ?_⟩
  ·rw [results_cell_tmp rfl]
   simp only [Rc.v]
   go_simp
  ·(repeat (refine cf.setCell ?_ _ _ (by first | exact fj _ _ | exact jl _ _)))
   exact H.two.below (ck _ _ _)
  (repeat (refine Below.setCell ?_ (by simp only; omega) _))
  exact ck _ _ _
 have qc : g.aF = false := by simpa using hd
 obtain ⟨bk, rfl⟩ : ∃ p : Nat, block = (p : Int) := ⟨block.toNat, oM⟩
 have sU : bk < g.aq.length := oM
 simp only [Int.toNat_natCast]
 have ua := h.lE
 have hlen := h.ok.len
 have sO := h.ok.p1
 have Dq := h.ok.p2
 obtain ⟨R, hR⟩ := ex (if (dx g).2 = true then (({ (dx g).1 with img := lay g.img (64 * g.pg * bk) (eK ((g.img.drop (64 * g.pg * bk)).take (64 * g.pg)) g.az), aq := fa g.aq bk } : Fl), (20 : Int)) else ({ (dx g).1 with img := lay g.img (64 * g.pg * bk) (List.replicate (64 * g.pg) 255), aq := fa g.aq bk }, 0))
 have Ew : aT g (bk : Int) = R := by
  unfold aT
  rw [iN hd, iN hout]
  simp only [Int.toNat_natCast]
  exact hR
 rw [Ew] at dc
 rw [hR]
 have MN := iD dc
 have HR := iD hR
 have yc := iD (CU (h.below pG))
 rw [QI] at yc
 have lV := iD (dW g)
 obtain ⟨NI, Ab⟩ := ex g.img.length
 obtain ⟨NW, Y4⟩ := ex g.aq.length
 have po := iD Ab
 have Jt := iD Y4
 have yb := iD hlen
 rw [Y4] at sU lG
 rw [Ab] at ua
 obtain ⟨a0, a1, a2, a3, a4, a5, _⟩ := h6.1
 have hneg' : decide ((bk : Int) < 0) = false := by simp
 have hge' : decide (NW ≤ bk) = false := by simp; omega
 have TG := yc
 rw [Rc.v, Ab, Y4, qc] at TG
 rw [qc] at hV a3
 clear h hX h6 dc hd hout Ew hR Ab Y4 hlen yc
 obtain ⟨M, hM⟩ := ex (64 * g.pg)
 obtain ⟨Z, hZ⟩ := ex (M * bk)
 have Ad : 64 ≤ M := oM
 have xP : M ≤ 1024 := oM
 have Wy : Z + M ≤ NI := by
  have h1 : M * bk + M ≤ M * NW := by
   have := Nat.mul_le_mul_left M (by omega : bk + 1 ≤ NW)
   rw [Nat.mul_add, Nat.mul_one] at this
   exact this
  have h2 := yb.out
  rw [po, Jt, show NW * g.pg * 64 = M * NW by rw [← hM, Nat.mul_comm (64 * g.pg), Nat.mul_assoc, Nat.mul_comm g.pg 64]] at h2
  omega
 have x1 : (64 : Int) * (g.pg : Int) = (M : Int) := oM
 have x2 : (M : Int) * (bk : Int) = (Z : Int) := by rw [← hZ]; push_cast; rfl
 have Tu := iD hM
 have xT := iD hZ
 rw [hM, hZ] at HR
 clear hM hZ
 rw [po, Jt, qc]
 rw [po] at a0 hV
 rw [Jt] at a2 hV
 clear qc
 go_enter func26, ntmps26
 go_wp2_with (fail)
 try rw [hV]
 clear hV a0 a1 a2 a3 a4 a5
 refine TG.mono ?_
 rintro e w3 ⟨rfl, gL⟩
 have jd : Hid (bW w w3) := pG.trans (gL.mono pG.size)
 have DG := iD (H6.1.below gL oM)
 have M4 := iD (H6.2.below gL oM)
 have vb : Hid (cf (X2 X w.heap.size) w3 ⟨A, c, B, d, P, r⟩ (dx g).1) := H.cut.two.below jd
 rw [po, Jt] at DG
 clear gL TG H6
 obtain ⟨g', dr⟩ := ex (dx g).1
 obtain ⟨kK, gU⟩ := ex (dx g).2
 rw [dr, gU] at HR
 rw [dr] at vb lV
 rw [dr, gU]
 clear dr gU
 obtain ⟨W3, mC⟩ := ex (pP w3 w.heap.size (.slice A NI c) (.int .i64 g.pg) (.slice B NW d) (.bool g'.aF) (.int .i64 g'.be) (.slice P g.az.length r))
 have gj : Hid (bW w W3) := by rw [← mC]; exact qo jd cV _ _ _ _ _ _
 have PM : Hid (cf (X2 X w.heap.size) W3 ⟨A, c, B, d, P, r⟩ g') := by rw [← mC]; exact vb.pP (fj _ _) _ _ _ _ _ _
 have FG : Hid (iI W3 w.heap.size (.slice A NI c) (.int .i64 g.pg) (.slice B NW d) (.bool g'.aF) (.int .i64 g'.be) (.slice P g.az.length r)) := by rw [← mC]; exact DG.put _ _ _ _ _ _
 have PS : Hid (iI W3 (w.heap.size + 1) (.slice none 0 0) (.int .i64 0) (.slice none 0 0) (.bool false) (.int .i64 0) (.slice none 0 0)) := by rw [← mC]; exact M4.Uy oM _ _ _ _ _ _
 have Ss : w.heap.size + 1 < W3.heap.size := PS.lt
 unfold pP at mC
 obtain ⟨a0, a1, a2, a3, a4, a5, a6⟩ := DG.out
 have f0 := a6 0
 have f1 := a6 1
 have f2 := a6 2
 have f3 := a6 3
 have f4 := a6 4
 have f5 := a6 5
 clear a6
 go_upto_region 6 with (fail)
 try rw [mC]
 clear mC a0 a1 a2 a3 a4 a5 f0 f1 f2 f3 f4 f5 DG M4 vb jd
 have zj : Hid ((ag .u8 g.img).length = NI * 1) := by rw [Hid, aE, po, Nat.mul_one]
 have HKW : Hid ((aw g.aq).length = NW * 1) := by rw [Hid, cj, Jt, Nat.mul_one]
 obtain ⟨i5, rR, jc, jb, ja⟩ := info_parts kD
 obtain ⟨i3, vU, kE, jN, lh⟩ := info_parts mq
 have WE : 0 < NI := by
  have := yb.out
  rw [po, Jt] at this
  have := Nat.mul_le_mul (show 1 ≤ NW by omega) sO
  omega
 have WD : 0 < NW := oM
 have u0 := FG.out.1
 have u2 := FG.out.2.2.1
 have vT : ∀ w' : World, bW W3 w' → w'.cell? ⟨w.heap.size, 0, none⟩ = some (.slice A NI c) ∧ w'.cell? ⟨w.heap.size, 2, none⟩ = some (.slice B NW d) ∧ bW W3 w' := fun w' hb => ⟨(hb.cell (p := ⟨w.heap.size, 0, none⟩) (by simp only; omega)).trans u0, (hb.cell (p := ⟨w.heap.size, 2, none⟩) (by simp only; omega)).trans u2, hb⟩
 have zk := iD vT
 have HRI : Hid (∀ w' : World, (w'.cell? ⟨w.heap.size, 0, none⟩ = some (.slice A NI c) ∧ w'.cell? ⟨w.heap.size, 2, none⟩ = some (.slice B NW d) ∧ bW W3 w') → Rd w' w.heap.size A (ag .u8 g.img)) := fun w' h => H.a.rd.below (gj.trans (h.2.2.mono gj.size)) cV
 have XG : Hid (∀ w' : World, (w'.cell? ⟨w.heap.size, 0, none⟩ = some (.slice A NI c) ∧ w'.cell? ⟨w.heap.size, 2, none⟩ = some (.slice B NW d) ∧ bW W3 w') → Rd w' w.heap.size B (aw g.aq)) := fun w' h => H.b.rd.below (gj.trans (h.2.2.mono gj.size)) cV
 have Py : Hid (∀ (w' : World) (o : Obj), (w'.cell? ⟨w.heap.size, 0, none⟩ = some (.slice A NI c) ∧ w'.cell? ⟨w.heap.size, 2, none⟩ = some (.slice B NW d) ∧ bW W3 w') → (w'.alloc o).cell? ⟨w.heap.size, 0, none⟩ = some (.slice A NI c) ∧ (w'.alloc o).cell? ⟨w.heap.size, 2, none⟩ = some (.slice B NW d) ∧ bW W3 (w'.alloc o)) := fun w' o h => zk _ (h.2.2.alloc h.2.2.size o)
 have pF : Hid (∀ (w' G6 : World), (w'.cell? ⟨w.heap.size, 0, none⟩ = some (.slice A NI c) ∧ w'.cell? ⟨w.heap.size, 2, none⟩ = some (.slice B NW d) ∧ bW W3 w') → bW w' G6 → G6.cell? ⟨w.heap.size, 0, none⟩ = some (.slice A NI c) ∧ G6.cell? ⟨w.heap.size, 2, none⟩ = some (.slice B NW d) ∧ bW W3 G6) := fun w' G6 h hb => zk _ (h.2.2.trans (hb.mono h.2.2.size))
 clear vT u0 u2
 have pa : Hid (∀ w' : World, (w'.cell? ⟨w.heap.size, 0, none⟩ = some (.slice A NI c) ∧ w'.cell? ⟨w.heap.size, 2, none⟩ = some (.slice B NW d) ∧ bW W3 w') → W3.heap.size ≤ w'.heap.size) := fun w' h => h.2.2.size
 go_cut [7, 8] (fun s t wx => ∃ g7 c7 g8 c8, s = .slice (some ⟨g7, 0, none⟩) NI c7 ∧ t = .slice (some ⟨g8, 0, none⟩) NW c8 ∧ NI ≤ c7 ∧ c7 ≤ maxLen ∧ NW ≤ c8 ∧ c8 ≤ maxLen ∧ g7 ≠ g8 ∧ W3.heap.size ≤ g7 ∧ W3.heap.size ≤ g8 ∧
  wx.ownsRow W3.heap.size 5 1 (.slice (some ⟨g7, 0, none⟩) NI c7) NI (ag .u8 g.img) ∧ wx.ownsRow W3.heap.size 3 1 (.slice (some ⟨g8, 0, none⟩) NW c8) NW (aw g.aq) ∧ bW W3 wx)
 case first =>
  go_region_held3 (fun w' => w'.cell? ⟨w.heap.size, 0, none⟩ = some (.slice A NI c) ∧ w'.cell? ⟨w.heap.size, 2, none⟩ = some (.slice B NW d) ∧ bW W3 w') (first | exact zk _ (Below.drew bV) | exact Py _ _ (by assumption) | exact hS8 | exact hS9) (first
   | (refine l7 rfl _ _ 32 rfl 5 i5 (.int .u8 0) 1 1 underlying32 rR jc jb ja rfl oM _ rfl w.heap.size _ NI _ (ag .u8 g.img) rfl (HRI _ (by assumption)) zj (cZ _ _) WE (by unfold maxLen; omega) oM ?_; intro v8 w8 iF kH; have hS8 := pF _ w8 (by assumption) kH; have hO8 : w8.ownsRow W3.heap.size 5 1 v8 NI (ag .u8 g.img) := BY iF (pa _ (by assumption)); clear iF; obtain ⟨A8, c8, rfl, EA, Ez, Gu⟩ := a9 hO8; obtain ⟨g8, rfl, aau, ab5⟩ := Gu WE)
   | (refine l7 rfl _ _ 33 rfl 3 i3 (.int .i64 0) 1 8 underlying33 vU kE jN lh rfl oM _ rfl w.heap.size _ NW _ (aw g.aq) rfl (XG _ (by assumption)) HKW (mW _) WD (by unfold maxLen; omega) oM ?_; intro v9 w9 kd lS; have hS9 := pF _ w9 (by assumption) lS; have hO9 : w9.ownsRow W3.heap.size 3 1 v9 NW (aw g.aq) := BY kd (pa _ (by assumption)); have WC : w9.ownsRow W3.heap.size 5 1 (.slice (some ⟨g8, 0, none⟩) NI c8) NI (ag .u8 g.img) := (by first | exact aD hO8 lS | exact aD (aD hO8 (bI w8 _)) lS); clear kd; obtain ⟨A9, c9, rfl, OB, OA, hg9⟩ := a9 hO9; obtain ⟨g9, rfl, V6, aat⟩ := hg9 WD))
  all_goals
   (try go_wp2_with fail)
   go_meet
   exact ⟨g8, c8, g9, c9, rfl, rfl, EA, Ez, OB, OA, fun e => aL WC hO9 (by decide) g8 rfl (by rw [e]; rfl), aau, V6, WC, hO9, hS9.2.2⟩
 case rest =>
  obtain ⟨g7, c7, g8, c8, rfl, rfl, QG, OH, h81, h82, Za, hg7, Gu, Ng, iF, Um⟩ := hcut
  clear zk HRI XG Py pF pa zj HKW
  unfold maxLen at OH h82
  obtain ⟨b', cU⟩ := ex (if kK = true then eK ((g.img.drop Z).take M) g.az else List.replicate M 255)
  have cB : b'.length = M := by
   rw [← cU]
   split
   ·rw [db, List.length_take, List.length_drop, po]; omega
   rw [List.length_replicate]
  have HB' := iD cU
  have HBL' := iD cB
  have X4 := iD Ng
  have xY := iD iF
  have TJ := iD Um
  have p1c : wc.cell? ⟨w.heap.size, 1, none⟩ = some (.int .i64 g.pg) := (Um.cell (p := ⟨w.heap.size, 1, none⟩) (by simp only; omega)).trans FG.2.1
  clear Ng iF Um cU cB
  go_wp2
  go_loopw [40] (fun i wr => ∃ j : Nat, j ≤ M ∧ i = .int .i64 j ∧ wr.ownsRow W3.heap.size 5 1 (.slice (some ⟨g7, 0, none⟩) NI c7) NI (ag .u8 (lay g.img Z (b'.take j))) ∧ wr.ownsRow W3.heap.size 3 1 (.slice (some ⟨g8, 0, none⟩) NW c8) NW (aw g.aq) ∧ bW W3 wr) (fun i _ => M - (intOf i).toNat)
  case atStart => exact ⟨0, oM, rfl, by rw [List.take_zero, lD]; exact X4, xY, TJ⟩
  case round =>
   obtain ⟨j, hj, rfl, ho, Ex, hb⟩ := hrel
   have xb := iD ho
   have QO := iD Ex
   have xD := iD hb
   have ZC : Hid (bW w wr) := gj.trans (xD.mono gj.size)
   clear ho Ex hb p1c
   have p1r : wr.cell? ⟨w.heap.size, 1, none⟩ = some (.int .i64 g.pg) := (xD.cell (p := ⟨w.heap.size, 1, none⟩) (by simp only; omega)).trans FG.2.1
   by_cases aW : j < M
   ·obtain ⟨y, hy⟩ := getElem?_of_lt (l := b') (k := j) (by rw [HBL']; exact aW)
    obtain ⟨z, hz⟩ := getElem?_of_lt (l := g.img) (k := Z + j) (by rw [po]; omega)
    have Ce : (lay g.img Z (b'.take j))[Z + j]? = some z := by
     rw [mV _ _ _ (by rw [List.length_take, HBL', po]; omega), List.length_take, HBL', iN oM]
     exact hz
    have gZ : (lay g.img Z (b'.take j)).length = NI := by rw [cL _ _ _ (by rw [List.length_take, HBL', po]; omega), po]
    have k1 : (0 : Int) ≤ (Z : Int) + (j : Int) := oM
    have k2 : (Z : Int) + (j : Int) < (NI : Int) := oM
    have k3 : ((Z : Int) + (j : Int)).toNat = Z + j := oM
    have eW : Hid ((lay g.img Z (b'.take j)).set (Z + j) y = lay g.img Z (b'.take (j + 1))) := jA (by rw [HBL', po]; exact Wy) hy
    cases gU : kK with
    | false =>
     have Le : y = 255 := by
      have h1 := HB'.out
      rw [gU, iN (by simp)] at h1
      rw [← h1, List.getElem?_replicate, iP aW] at hy
      exact (Option.some.inj hy).symm
     subst Le
     have e0 := qJ gZ xb Ce
     have e1 : wr.frozen? ⟨g7, Z + j, none⟩ = false := xb.frozenAt _
     have n1 := ir xb (Z + j) 255
     rw [eW] at n1
     have xZ := iD n1
     have X9 := iD (ownsRow_setCell_other QO (a := ⟨g7, Z + j, none⟩) (by simpa [Value.ownBlock] using fun e => Za e.symm) (.int .u8 255))
     have uJ : Hid (bW W3 _) := xD.setCell (p := ⟨g7, Z + j, none⟩) hg7 (.int .u8 255)
     clear hy hz Ce n1 gZ
     go_wp2
     go_roundw
     case rel => exact ⟨j + 1, oM, by go_num, xZ, X9, uJ⟩
     case measure => simp [intOf]; omega
    | true =>
     have Ti : Hid (bits .or .u8 z (dj g.az j) = y) := by
      have h1 := HB'.out
      rw [gU, iP rfl] at h1
      rw [← h1, eJ, List.getElem?_take, iP aW, List.getElem?_drop, hz] at hy
      show _ = _
      simpa [nv] using hy
     have uj := iD (yy (PM.below (xD.trans (Below.drew bV))) j oM)
     simp only [lV.out.2.2.2] at uj
     rw [Rc.v, lV.1, lV.2.1, lV.2.2.1, lV.2.2.2, po, Jt] at uj
     obtain ⟨a0, a1, a2, a3, a4, a5, _⟩ := FG.below xD oM
     have e0 := qJ gZ xb Ce
     have e1 : wr.frozen? ⟨g7, Z + j, none⟩ = false := xb.frozenAt _
     have RT := Ti.out
     have Jk := iD Ce
     have ya := iD gZ
     clear hy hz Ce gZ
     generalize dj g.az j = pk at *
     have rO := uj.out
     simp only at rO
     have abf := iD rO
     clear rO uj
     go_upto_region 12 with (fail)
     go_region_with (go_at_call 78; with_reducible refine abf.out.mono ?_; rintro e w5 ⟨rfl, gD⟩; have ke := aD (aD xb.out (Below.drew bV)) gD; have e0' := qJ ya.out ke Jk.out; have e1' : w5.frozen? ⟨g7, Z + j, none⟩ = false := ke.frozenAt _)
     all_goals
      have abl := iD (aD (aD QO (Below.drew bV)) gD)
      have Ri := iD ((Below.drew xD).trans (gD.mono xD.size))
      have MR := iD ke
      clear gD ke
      have n1 := ir MR (Z + j) y
      rw [eW] at n1
      have xZ := iD n1
      have X9 := iD (ownsRow_setCell_other abl (a := ⟨g7, Z + j, none⟩) (by simpa [Value.ownBlock] using fun e => Za e.symm) (.int .u8 y))
      have uJ : Hid (bW W3 _) := Ri.setCell (p := ⟨g7, Z + j, none⟩) hg7 (.int .u8 y)
      clear n1
      go_wp2
      go_roundw
      case rel => exact ⟨j + 1, oM, by go_num, xZ, X9, uJ⟩
      case measure => simp [intOf]; omega
   have Ba : M = j := oM
   subst Ba
   have eO := xb.out
   rw [List.take_of_length_le (by rw [HBL']; exact Nat.le_refl _), ← HB'] at eO
   have hq := HR.out
   clear p1r
   cases gU : kK with
   | false =>
    rw [gU, iN (by simp)] at eO hq
    subst hq
    have gZ : (lay g.img Z (List.replicate M 255)).length = NI := by
     rw [cL _ _ _ (by rw [List.length_replicate, po]; exact Wy), po]
    have ya := iD gZ
    obtain ⟨u, hu⟩ := getElem?_of_lt (l := g.aq) (k := bk) (by rw [Jt]; exact sU)
    have dn := KN Jt QO hu
    have df : wr.frozen? ⟨g8, bk, none⟩ = false := QO.frozenAt _
    have Nx : Hid (g.aq.set bk (wrap64 (u + 1)) = fa g.aq bk) := by
     show _ = _
     unfold fa
     rw [hu]
     rfl
    have RW := sG QO bk (wrap64 (u + 1))
    rw [Nx] at RW
    have yL := ownsRow_setCell_other eO (a := ⟨g8, bk, none⟩) (by simpa [Value.ownBlock] using fun e => Za e) (.int .i64 (wrap64 (u + 1)))
    have kZ : Hid ((fa g.aq bk).length = NW) := by rw [Hid, dz]; exact Jt
    have dZ := xD.setCell (p := ⟨g8, bk, none⟩) Gu (.int .i64 (wrap64 (u + 1)))
    have uD := PM.below dZ
    have AJ : Hid (cf (X2 X w.heap.size) (wr.setCell ⟨g8, bk, none⟩ (.int .i64 (wrap64 (u + 1)))) ⟨some ⟨g7, 0, none⟩, c7, some ⟨g8, 0, none⟩, c8, P, r⟩ { g' with img := (lay g.img Z (List.replicate M 255)), aq := fa g.aq bk }) :=
     ⟨MN, cn.new (tA HX Ss) cV (by rw [aE]; exact gZ) yL, by simp only [gZ]; exact QG, by unfold maxLen; exact OH, cn.new (tA HX Ss) cV (by rw [cj]; exact kZ) RW, by simp only [kZ.out]; exact h81, by unfold maxLen; exact h82, uD.p, uD.p1, uD.p2⟩
    obtain ⟨a0, a1, a2, a3, a4, a5, a6⟩ := FG.below dZ oM
    obtain ⟨b0, b1, b2, b3, b4, b5, b6⟩ := PS.below dZ oM
    have f0 := a6 0
    have f2 := a6 2
    have e0 := b6 0
    have e1 := b6 1
    have e2 := b6 2
    have e3 := b6 3
    have e4 := b6 4
    have e5 := b6 5
    have fK : Hid (Below w.heap.size w (wr.setCell ⟨g8, bk, none⟩ (.int .i64 (wrap64 (u + 1))))) := gj.trans (dZ.mono gj.size)
    obtain ⟨WF, SE⟩ := ex (wr.setCell ⟨g8, bk, none⟩ (.int .i64 (wrap64 (u + 1))))
    rw [SE] at AJ fK a0 a1 a2 a3 a4 a5 b0 b1 b2 b3 b4 b5 f0 f2 e0 e1 e2 e3 e4 e5
    clear a6 b6 eO gZ uD dZ hu RW yL Nx
    go_upto_region 16 with (fail)
    try rw [SE]
    clear SE dn df
    go_wp2
    (try simp only [Exit.inBlock, Exit.then])
    refine bodyPost_ret (v := .tuple #[.agg #[.slice (some ⟨g7, 0, none⟩) NI c7, .int .i64 g.pg, .slice (some ⟨g8, 0, none⟩) NW c8, .bool g'.aF, .int .i64 g'.be, .slice P g.az.length r], .int .i64 0]) ?_ rfl ⟨⟨some ⟨g7, 0, none⟩, c7, some ⟨g8, 0, none⟩, c8, P, r⟩, by simp only [Rc.v, lV.out.1, kZ.out, lV.out.2.2.2, ya.out], cf.cX (X := X2 X w.heap.size) ?_ (fun _ => .inl), ?_⟩
    ·rw [results_cell_tmp rfl]
     go_simp
    ·(repeat (refine cf.setCell ?_ _ _ (by first | exact fj _ _ | exact jl _ _)))
     exact AJ
    (repeat (refine Below.setCell ?_ (by simp only; omega) _))
    exact fK
   | true =>
    rw [gU, iP rfl] at eO hq
    subst hq
    have gZ : (lay g.img Z (eK ((g.img.drop Z).take M) g.az)).length = NI := by
     rw [cL _ _ _ (by rw [db, List.length_take, List.length_drop, po]; omega), po]
    have ya := iD gZ
    obtain ⟨u, hu⟩ := getElem?_of_lt (l := g.aq) (k := bk) (by rw [Jt]; exact sU)
    have dn := KN Jt QO hu
    have df : wr.frozen? ⟨g8, bk, none⟩ = false := QO.frozenAt _
    have Nx : Hid (g.aq.set bk (wrap64 (u + 1)) = fa g.aq bk) := by
     show _ = _
     unfold fa
     rw [hu]
     rfl
    have RW := sG QO bk (wrap64 (u + 1))
    rw [Nx] at RW
    have yL := ownsRow_setCell_other eO (a := ⟨g8, bk, none⟩) (by simpa [Value.ownBlock] using fun e => Za e) (.int .i64 (wrap64 (u + 1)))
    have kZ : Hid ((fa g.aq bk).length = NW) := by rw [Hid, dz]; exact Jt
    have dZ := xD.setCell (p := ⟨g8, bk, none⟩) Gu (.int .i64 (wrap64 (u + 1)))
    have uD := PM.below dZ
    have AJ : Hid (cf (X2 X w.heap.size) (wr.setCell ⟨g8, bk, none⟩ (.int .i64 (wrap64 (u + 1)))) ⟨some ⟨g7, 0, none⟩, c7, some ⟨g8, 0, none⟩, c8, P, r⟩ { g' with img := (lay g.img Z (eK ((g.img.drop Z).take M) g.az)), aq := fa g.aq bk }) :=
     ⟨MN, cn.new (tA HX Ss) cV (by rw [aE]; exact gZ) yL, by simp only [gZ]; exact QG, by unfold maxLen; exact OH, cn.new (tA HX Ss) cV (by rw [cj]; exact kZ) RW, by simp only [kZ.out]; exact h81, by unfold maxLen; exact h82, uD.p, uD.p1, uD.p2⟩
    obtain ⟨a0, a1, a2, a3, a4, a5, a6⟩ := FG.below dZ oM
    obtain ⟨b0, b1, b2, b3, b4, b5, b6⟩ := PS.below dZ oM
    have f0 := a6 0
    have f2 := a6 2
    have e0 := b6 0
    have e1 := b6 1
    have e2 := b6 2
    have e3 := b6 3
    have e4 := b6 4
    have e5 := b6 5
    have fK : Hid (Below w.heap.size w (wr.setCell ⟨g8, bk, none⟩ (.int .i64 (wrap64 (u + 1))))) := gj.trans (dZ.mono gj.size)
    obtain ⟨WF, SE⟩ := ex (wr.setCell ⟨g8, bk, none⟩ (.int .i64 (wrap64 (u + 1))))
    rw [SE] at AJ fK a0 a1 a2 a3 a4 a5 b0 b1 b2 b3 b4 b5 f0 f2 e0 e1 e2 e3 e4 e5
    clear a6 b6 eO gZ uD dZ hu RW yL Nx
    go_upto_region 16 with (fail)
    try rw [SE]
    clear SE dn df
    go_wp2
    (try simp only [Exit.inBlock, Exit.then])
    refine bodyPost_ret (v := .tuple #[.agg #[.slice (some ⟨g7, 0, none⟩) NI c7, .int .i64 g.pg, .slice (some ⟨g8, 0, none⟩) NW c8, .bool g'.aF, .int .i64 g'.be, .slice P g.az.length r], .int .i64 20]) ?_ rfl ⟨⟨some ⟨g7, 0, none⟩, c7, some ⟨g8, 0, none⟩, c8, P, r⟩, by simp only [Rc.v, lV.out.1, kZ.out, lV.out.2.2.2, ya.out], cf.cX (X := X2 X w.heap.size) ?_ (fun _ => .inl), ?_⟩
    ·rw [results_cell_tmp rfl]
     go_simp
    ·(repeat (refine cf.setCell ?_ _ _ (by first | exact fj _ _ | exact jl _ _)))
     exact AJ
    (repeat (refine Below.setCell ?_ (by simp only; omega) _))
    exact fK
theorem iI.grown {a b c d e f : Value} {row : Option Nat} (h : iI w B a b c d e f) (hg : w.grownBy w' row) (hB : row ≠ some B) : iI w' B a b c d e f := by
 have k := hg.block B h.lt (fun e => hB e.symm)
 have kc : ∀ j, w'.cell? ⟨B, j, none⟩ = w.cell? ⟨B, j, none⟩ := fun j => cell_of_block k
 have kf : ∀ j, w'.frozen? ⟨B, j, none⟩ = w.frozen? ⟨B, j, none⟩ := fun j => by simp only [World.frozen?, k]
 exact ⟨(kc 0).trans h.1, (kc 1).trans h.2.1, (kc 2).trans h.2.2.1, (kc 3).trans h.2.2.2.1, (kc 4).trans h.2.2.2.2.1, (kc 5).trans h.2.2.2.2.2.1, fun j => (kf j).trans (h.2.2.2.2.2.2 j)⟩
theorem cn.own {A : Option Addr} {n c : Nat} (hn : xs.length = n) (ho : w.ownsRow B e 1 (.slice A n c) n xs) (hX : ∀ g, (Value.slice A n c).ownBlock = some g → ¬ X g) : cn X w A xs := fun hx => by
 obtain ⟨A', c', hv, _, _, hg⟩ := a9 ho
 obtain ⟨A2, c2, jB, _, _, hr⟩ := bL ho
 injection hv with hv _ _
 injection jB with jB _ _
 subst hv
 subst jB
 have Ck : 0 < n := by
  rw [← hn]
  exact List.length_pos_iff.2 hx
 obtain ⟨g, rfl, Uj, aW⟩ := hg Ck
 obtain ⟨b, off, he, hb, hc⟩ := hr hx
 have he' : b = g ∧ off = 0 := by
  injection he with he
  injection he with h1 h2
  exact ⟨h1.symm, h2.symm⟩
 obtain ⟨rfl, rfl⟩ := he'
 exact ⟨b, 0, rfl, aW, hX b rfl, hc⟩
theorem KW (b p : Nat) (w : World) (hX : ∀ b, X b → b < w.heap.size) (h1 : 1 ≤ b) (h2 : b ≤ 64) (h3 : 1 ≤ p) (h4 : p ≤ 16) :
 Calls prog 9 #[.int .i64 b, .int .i64 p] w fun e w' => ∃ y : Rc, e = .returned (.tuple #[y.v (ee b p), .int .i64 0]) ∧ cf X w' y (ee b p) ∧ bW w w' := by
 have gV : Hid (ee b p).ok := Gh h1 h2 h3 h4
 have hm3 : ∀ wx : World, (Instr.makeSlice 33 (.int .i64 b) (.int .i64 b)).run prog wx = .ok (.slice (some ⟨wx.heap.size, 0, none⟩) b b) (wx.alloc (.cells (madeCells #[.int .i64 0] b) 3)) := fun wx =>
  run_make_row' 33 3 (.int .i64 0) 8 underlying33 mq rfl .i64 .i64 b oM oM wx
 have vb : Hid ((madeCells #[.int .i64 0] b).toList = aw (List.replicate b 0)) := vM .i64 b
 generalize madeCells #[.int .i64 0] b = C3 at *
 have d1 : decide ((b : Int) < 1) = false := by simp; omega
 have d2 : decide ((64 : Int) < (b : Int)) = false := by simp; omega
 have d3 : decide ((p : Int) < 1) = false := by simp; omega
 have d4 : decide ((16 : Int) < (p : Int)) = false := by simp; omega
 obtain ⟨Z, hZ⟩ := ex (b * p)
 have YY : 1 ≤ Z := by rw [← hZ]; exact Nat.mul_le_mul h1 h3
 have YX : Z ≤ 1024 := by rw [← hZ]; exact Nat.mul_le_mul h2 h4
 have x1 : (b : Int) * (p : Int) = (Z : Int) := by rw [← hZ]; push_cast; rfl
 obtain ⟨M, hM⟩ := ex (Z * 64)
 have x2 : (Z : Int) * 64 = (M : Int) := oM
 have hMb : M ≤ 65536 := oM
 have HZ := iD hZ
 have HM := iD hM
 have HX := iD hX
 clear hZ hM hX
 go_enter func9, ntmps9
 go_upto_region 4 with (fail)
 obtain ⟨V, hV⟩ := ex (((w.alloc (.cells Bh 35)).alloc (.cells C3 3)).alloc (.cells #[.slice none 0 0, .int .i64 p, .slice (some ⟨w.heap.size + 1, 0, none⟩) b b, .bool false, .int .i64 (-1), .slice none 0 0] 35))
 have gC : (w.alloc (.cells Bh 35)).heap.size = w.heap.size + 1 := World.size_alloc _ _
 have je : ((w.alloc (.cells Bh 35)).alloc (.cells C3 3)).heap.size = w.heap.size + 1 + 1 := by rw [World.size_alloc, gC]
 have pG : Hid (bW w V) := by rw [← hV]; exact (ck _ _ _).alloc (by rw [je]; omega) _
 have PS : Hid (iI V (w.heap.size + 1 + 1) (.slice none 0 0) (.int .i64 p) (.slice (some ⟨w.heap.size + 1, 0, none⟩) b b) (.bool false) (.int .i64 (-1)) (.slice none 0 0)) := by rw [← hV]; exact qE _ _ _ _ _ _ _ _ _ je.symm
 have xV : Hid (V.heap.size = w.heap.size + 1 + 1 + 1) := by rw [Hid, ← hV, World.size_alloc, je]
 have FG : Hid (iI V w.heap.size (.slice none 0 0) (.int .i64 0) (.slice none 0 0) (.bool false) (.int .i64 0) (.slice none 0 0)) := by
  rw [← hV]
  exact ((qE w _ _ _ _ _ _ _ _ rfl).below ((Below.refl (w.heap.size + 1) _).alloc (by rw [gC]; exact Nat.le_refl _) _) oM).below ((Below.refl (w.heap.size + 1) _).alloc (by rw [je]; omega) _) oM
 have uk : Hid (V.ownsRow w.heap.size 3 1 (.slice (some ⟨w.heap.size + 1, 0, none⟩) b b) b (aw (List.replicate b 0))) := by
  have o1 : ((w.alloc (.cells Bh 35)).alloc (.cells C3 3)).ownsRow w.heap.size 3 1 (.slice (some ⟨w.heap.size + 1, 0, none⟩) b b) b (aw (List.replicate b 0)) := by
   have := fP (w := w.alloc (.cells Bh 35)) (base := w.heap.size) (e := 3) vb (by rw [cj, List.length_replicate]) (by rw [gC]; omega) (by unfold maxLen; omega)
   rw [gC] at this
   exact this
  rw [← hV]
  exact aD o1 (bI _ _)
 try rw [hV]
 clear hV gC je hm3 vb
 obtain ⟨i5, rR, jc, jb, ja⟩ := info_parts kD
 go_wp2
 go_loopw [30] (fun i wr => ∃ (j : Nat) (v : Value), j ≤ M ∧ i = .int .i64 j ∧ iI wr w.heap.size (.slice none 0 0) (.int .i64 0) (.slice none 0 0) (.bool false) (.int .i64 0) (.slice none 0 0) ∧ iI wr (w.heap.size + 1 + 1) (v) (.int .i64 p) (.slice (some ⟨w.heap.size + 1, 0, none⟩) b b) (.bool false) (.int .i64 (-1)) (.slice none 0 0) ∧ wr.ownsRow w.heap.size 5 1 v j (ag .u8 (List.replicate j 255)) ∧ wr.ownsRow w.heap.size 3 1 (.slice (some ⟨w.heap.size + 1, 0, none⟩) b b) b (aw (List.replicate b 0)) ∧ bW w wr ∧ (∀ g, v.ownBlock = some g → w.heap.size + 1 + 1 < g)) (fun i _ => M - (intOf i).toNat)
 case atStart => exact ⟨0, .slice none 0 0, oM, rfl, FG, PS, World.ownsRow_nil .., uk, pG, fun g hg => by simp [Value.ownBlock] at hg⟩
 case round =>
  obtain ⟨j, v, hj, rfl, h6a, WV, ho, Ex, hb, hv⟩ := hrel
  have H1 := iD h6a
  have H2 := iD WV
  have HO := iD ho
  have HW := iD Ex
  have HB := iD hb
  have HV := iD hv
  have sR : w.heap.size + 1 + 1 < wr.heap.size := WV.lt
  clear ho Ex hb hv
  by_cases aW : j < M
  ·have h6c := WV.below (bI wr (.cells #[.int .u8 255] 5)) oM
   have c0 := h6c.1
   have ng := HO.out
   have iH := iD (aD HO (bI wr (.cells #[.int .u8 255] 5)))
   clear h6a WV ng
   obtain ⟨q1, q2, q3, q4, q5, q6, q7⟩ := H2.out
   clear q2 q3 q4 q5 q6 q7 h6c
   go_wp2_with (first | (at_builtin; refine wpList_append_own_at _ rfl _ _ 32 rfl w.heap.size 5 i5 (.int .u8 0) 1 1 underlying32 rR jc jb ja rfl oM v j _ rfl iH _ 1 _ [.int .u8 255] rfl rfl (cell_one_new _ _ _) (by intro u hu; simp at hu; subst hu; rfl) (by unfold maxLen; omega) oM (by rw [World.size_alloc]; omega) ?_))
   intro v' w2 bX hgrow hnil kj
   obtain ⟨A', c', rfl, aaC, ace, _⟩ := a9 bX
   have HN : Hid (w2.ownsRow w.heap.size 5 1 (.slice A' (j + 1) c') (j + 1) (ag .u8 (List.replicate (j + 1) 255))) := by
    have e : ag .u8 (List.replicate (j + 1) 255) = ag .u8 (List.replicate j 255) ++ [.int .u8 255] := by rw [List.replicate_succ', dm]; rfl
    rw [Hid, e]
    exact bX
   have YN : ∀ g, v.ownBlock = some g → w.heap.size + 1 + 1 < g := HV
   have fR : ∀ k, k ≤ w.heap.size + 1 + 1 → v.ownBlock ≠ some k := fun k hk e => by
    have := YN k e
    omega
   have m1 := (H1.below (bI wr (.cells #[.int .u8 255] 5)) oM).grown hgrow (fR _ oM)
   have m2 := (H2.out.below (bI wr (.cells #[.int .u8 255] 5)) oM).grown hgrow (fR _ oM)
   have m3 := bN (aD HW (bI wr (.cells #[.int .u8 255] 5))) hgrow (fun g hg e => by
    have dr : w.heap.size + 1 = g := by simpa [Value.ownBlock] using hg
    subst dr
    exact fR _ oM e)
   have fK : Hid (bW w w2) := (HB.alloc HB.size _).grown hgrow (by rw [World.size_alloc]; omega) (fun k hk => by have := YN k hk; omega)
   have xU : Hid (∀ g, (Value.slice A' (j + 1) c').ownBlock = some g → w.heap.size + 1 + 1 < g) := fun g hg => by
    rcases kj with h | h
    ·exact YN g (by rw [← h]; exact hg)
    rw [h] at hg
    injection hg with hg
    (try rw [World.size_alloc] at hg)
    omega
   have M1 : Hid (iI (w2.setCell ⟨w.heap.size + 1 + 1, 0, none⟩ (.slice A' (j + 1) c')) w.heap.size (.slice none 0 0) (.int .i64 0) (.slice none 0 0) (.bool false) (.int .i64 0) (.slice none 0 0)) := m1.Ff _ _ (by simp only; omega)
   have M2 : Hid (iI (w2.setCell ⟨w.heap.size + 1 + 1, 0, none⟩ (.slice A' (j + 1) c')) (w.heap.size + 1 + 1) (.slice A' (j + 1) c') (.int .i64 p) (.slice (some ⟨w.heap.size + 1, 0, none⟩) b b) (.bool false) (.int .i64 (-1)) (.slice none 0 0)) := m2.iC _
   have M3 := iD (ownsRow_setCell_other m3 (a := ⟨w.heap.size + 1 + 1, 0, none⟩) (by simp [Value.ownBlock]) (.slice A' (j + 1) c'))
   have uJ := iD (ownsRow_setCell_other HN (a := ⟨w.heap.size + 1 + 1, 0, none⟩) (fun e => by have := xU (w.heap.size + 1 + 1) e; omega) (.slice A' (j + 1) c'))
   have jd : Hid (Below w.heap.size w (w2.setCell ⟨w.heap.size + 1 + 1, 0, none⟩ (.slice A' (j + 1) c'))) := fK.setCell (p := ⟨w.heap.size + 1 + 1, 0, none⟩) (by simp only; omega) (.slice A' (j + 1) c')
   have d0 := m2.1
   have d1 := m2.2.2.2.2.2.2 0
   clear bX hgrow hnil kj YN fR m1 m2 m3 c0 q1
   go_wp2
   go_roundw
   case rel => exact ⟨j + 1, _, oM, by go_num, M1, M2, uJ, M3, jd, xU⟩
   case measure => simp [intOf]; omega
  have Ba : M = j := oM
  subst Ba
  obtain ⟨A2, c2, rfl, uE, nR, oF⟩ := a9 HO
  obtain ⟨a0, a1, a2, a3, a4, a5, a6⟩ := WV
  obtain ⟨b0, b1, b2, b3, b4, b5, b6⟩ := h6a
  have e0 := b6 0
  have e1 := b6 1
  have e2 := b6 2
  have e3 := b6 3
  have e4 := b6 4
  have e5 := b6 5
  have Nr : Hid ((ee b p).img.length = M ∧ (ee b p).aq.length = b) := ⟨by simp only [ee]; rw [List.length_replicate, HZ, HM], by simp [ee]⟩
  clear a6 b6 oF aW
  go_wp2
  (try simp only [Exit.inBlock, Exit.then])
  refine bodyPost_ret (v := .tuple #[.agg #[.slice A2 M c2, .int .i64 p, .slice (some ⟨w.heap.size + 1, 0, none⟩) b b, .bool false, .int .i64 (-1), .slice none 0 0], .int .i64 0]) ?_ rfl ⟨⟨A2, c2, some ⟨w.heap.size + 1, 0, none⟩, b, none, 0⟩, by simp only [Rc.v, Nr.out.1, Nr.out.2]; rfl, ?_, ?_⟩
  ·rw [results_cell_tmp rfl]
   go_simp
  ·have YK : cf (fun b => X b ∨ b = w.heap.size) wr ⟨A2, c2, some ⟨w.heap.size + 1, 0, none⟩, b, none, 0⟩ (ee b p) :=
    ⟨gV, cn.own (by rw [aE, Nr.1]) (by simp only [ee, HZ.out, HM.out]; exact HO) (fun g hg h => by
     have h2 := HV g hg
     rcases h with h | h
     ·have := HX g h; omega
     ·omega), by rw [Nr.1]; exact uE, nR, cn.own (by rw [cj, Nr.2]) HW (fun g hg h => by
     have dr : w.heap.size + 1 = g := by simpa [Value.ownBlock] using hg
     rcases h with h | h
     ·have := HX g h; omega
     omega), by rw [Nr.2]; exact Nat.le_refl _, by show b ≤ maxLen; unfold maxLen; omega, cn.nil, Nat.le_refl _, Nat.zero_le _⟩
   refine cf.cX (X := fun b => X b ∨ b = w.heap.size) ?_ (fun _ => .inl)
   (repeat (refine cf.setCell ?_ _ _ (.inr rfl)))
   exact YK
  (repeat (refine Below.setCell ?_ (by simp only; omega) _))
  exact HB
theorem cN {fn : Func} {p u : Tmp} {ty : TypeId} (h : fn.results = #[.cell p ty, .tmp u]) (tmps : Array Value) (w : World) (g : Nat) (t : TypeId) (cs : Array Value) (fr : Nat × Nat) (d : TypeDesc) 
 (hp : tmps.getD p undef = .pointer (some ⟨g, 0, none⟩)) (hg : w.heap[g]? = some (.cells cs t fr))
 (hu : P.underlying ty = some d) (hd : (match d with | .struct _ | .array _ _ => true | _ => false) = true) (hi : (P.info? ty).map (·.size) = some cs.size) :
 (results fn tmps).run P w = .ok (.tuple #[.agg cs, tmps.getD u undef]) w := by
 rw [results_cell_tmp h, hp]
 show ((loadVar ty ⟨g, 0, none⟩).run P w).andThen _ = _
 rw [run_loadVar_row w g t ty cs fr d hg hu hd hi]
 rfl
theorem aP : (prog.info? 43).map (·.size) = some 15 := by kernel_rfl
theorem dK : (prog.info? 35).map (·.size) = some 6 := by kernel_rfl
structure Hx (w wr : World) (D D8 : Nat) (l : Array Value) : Prop where
 below : bW w wr
 h8 : ∃ dX : Array Value, dX.size = 15 ∧ wr.heap[D8]? = some (.cells dX 43 (0, 0))
 h : wr.heap[D]? = some (.cells l 43 (0, 0))
 Ja : w.heap.size ≤ D ∧ w.heap.size ≤ D8
 ne : D ≠ D8
section
variable {w wr w' : World} {D D8 : Nat} {l : Array Value}
theorem Hx.lt (h : Hx w wr D D8 l) : D < wr.heap.size ∧ D8 < wr.heap.size := by
 obtain ⟨dX, _, h8⟩ := h.h8
 exact ⟨(Array.getElem?_eq_some_iff.1 h.h).1, (Array.getElem?_eq_some_iff.1 h8).1⟩
theorem Hx.ab (h : Hx w wr D D8 l) (hb : bW wr w') : Hx w w' D D8 l := by
 obtain ⟨dX, ho, h8⟩ := h.h8
 exact ⟨h.below.trans (hb.mono h.below.size), ⟨dX, ho, (hb.block D8 h.lt.2).trans h8⟩, (hb.block D h.lt.1).trans h.h, h.Ja, h.ne⟩
theorem Hx.row (h : Hx w wr D D8 l) (j : Nat) (hj : l.toList[j]? = some u) : wr.cell? ⟨D, j, none⟩ = some u := (cell_of_row wr D j l 43 (0, 0) h.h).trans (by rw [← Array.getElem?_toList]; exact hj)
theorem Hx.fz (h : Hx w wr D D8 l) (j : Nat) : wr.frozen? ⟨D, j, none⟩ = false := frozen_of_row wr D j l 43 h.h
theorem Hx.set (h : Hx w wr D D8 l) (i : Nat) (v : Value) : Hx w (wr.setCell ⟨D, i, none⟩ v) D D8 (l.setIfInBounds i v) := by
 obtain ⟨dX, ho, h8⟩ := h.h8
 exact ⟨h.below.setCell (p := ⟨D, i, none⟩) h.Ja.1 _, ⟨dX, ho, (heap_setCell_other wr ⟨D, i, none⟩ D8 v (fun e => h.ne e.symm)).trans h8⟩, heap_setCell_same wr D i l 43 v h.h, h.Ja, h.ne⟩
theorem Hx.Uy (h : Hx w wr D D8 l) {g i : Nat} (v : Value) (hg : w.heap.size ≤ g) (h1 : D ≠ g) (h2 : D8 ≠ g) : Hx w (wr.setCell ⟨g, i, none⟩ v) D D8 l := by
 obtain ⟨dX, ho, h8⟩ := h.h8
 exact ⟨h.below.setCell (p := ⟨g, i, none⟩) hg _, ⟨dX, ho, (heap_setCell_other wr ⟨g, i, none⟩ D8 v h2).trans h8⟩, (heap_setCell_other wr ⟨g, i, none⟩ D v h1).trans h.h, h.Ja, h.ne⟩
theorem Hx.grown (h : Hx w wr D D8 l) {row : Option Nat} (hg : wr.grownBy w' row) (h1 : row ≠ some D) (h2 : row ≠ some D8) (hr : ∀ k, row = some k → w.heap.size ≤ k) : Hx w w' D D8 l := by
 obtain ⟨dX, ho, h8⟩ := h.h8
 exact ⟨h.below.grown hg h.below.size hr, ⟨dX, ho, (hg.block D8 h.lt.2 (fun e => h2 e.symm)).trans h8⟩, (hg.block D h.lt.1 (fun e => h1 e.symm)).trans h.h, h.Ja, h.ne⟩
theorem Hx.new {V : World} {o : Obj} (hV : V = (w.alloc (.cells l 43)).alloc o) (ho : ∃ dX : Array Value, dX.size = 15 ∧ o = .cells dX 43) : Hx w V w.heap.size (w.heap.size + 1) l := by
 obtain ⟨dX, h1, rfl⟩ := ho
 subst hV
 exact ⟨ck _ _ _, ⟨dX, h1, heap_alloc2_new _ _ _⟩, heap_alloc2_old _ _ _, ⟨Nat.le_refl _, Nat.le_succ _⟩, oM⟩
end
theorem iv (a0 a1 a5 a6 a7 a10 a11 a12 a13 : Int) (Q2 Q3 Q4 Q8 Q9 : Option Addr) (n2 c2 n3 c3 n4 c4 n8 c8 n9 c9 : Nat) (b : Bool) :
 (#[Value.int .i64 a0, .int .i64 a1, .slice Q2 n2 c2, .slice Q3 n3 c3, .slice Q4 n4 c4, .int .i64 a5, .int .i64 a6, .int .i64 a7, .slice Q8 n8 c8, .slice Q9 n9 c9, .int .i64 a10, .int .i64 a11, .int .i64 a12, .int .i64 a13, .bool b].all (·.oneCell')) = true := by
 simp [Value.oneCell']
theorem Hk {v : Int} {p : eB} (hb : s.af = false) (hi : i = k) (hk : k < s.ax.length) (hp : s.ax[k]? = some p) : gf s i v = if p.lo ≤ v ∧ v ≤ p.hi then 0 else 3 := by
 subst hi
 unfold gf iy
 rw [hb, iN (by decide), iN oM, Int.toNat_natCast, hp]
 simp only [Option.getD_some]
 by_cases h : p.lo ≤ v ∧ v ≤ p.hi
 ·rw [iP h, iN (by simpa using h)]
 rw [iN h, iP (by simpa using h)]
theorem yB {g n cap : Nat} {e t : TypeId} {size : Nat} {cells : Array Value} (h : w.ownsRow base e size (.slice (some ⟨g, 0, none⟩) n cap) n xs) (hD : w.heap[D]? = some (.cells cells t (0, 0))) (ht : e ≠ t) : ¬ D = g := by
 intro e9
 subst e9
 rcases h.2 with ⟨h1, _⟩ | ⟨g', O6, cur, h1, _, hg, _⟩
 ·cases h1
 injection h1 with h1 _ _
 injection h1 with h1
 injection h1 with h1
 subst h1
 rw [hD] at hg
 injection hg with hg
 injection hg with _ hg _
 exact ht hg.symm
theorem yA {g n cap : Nat} {e : TypeId} {size : Nat} (h : w.ownsRow base e size (.slice (some ⟨g, 0, none⟩) n cap) n xs) (hb : w'.heap[g]? = w.heap[g]?) : w'.ownsRow base e size (.slice (some ⟨g, 0, none⟩) n cap) n xs := by
 refine ⟨h.1, ?_⟩
 rcases h.2 with h1 | ⟨g', O6, cur, h1, h2, hg, h3⟩
 ·exact .inl h1
 refine .inr ⟨g', O6, cur, h1, h2, ?_, h3⟩
 injection h1 with h1 _ _
 injection h1 with h1
 injection h1 with h1
 subst h1
 rw [hb]
 exact hg
theorem NY {g n cap j : Nat} {e : TypeId} {size : Nat} (h : w.ownsRow base e size (.slice (some ⟨g, 0, none⟩) n cap) n xs) (hD : ¬ D = g) : (w.setCell ⟨D, j, none⟩ u).ownsRow base e size (.slice (some ⟨g, 0, none⟩) n cap) n xs :=
 yA h (heap_setCell_other w ⟨D, j, none⟩ g u (fun e => hD e.symm))
theorem Eb {g n cap : Nat} {e : TypeId} {size : Nat} (h : w.ownsRow base e size (.slice (some ⟨g, 0, none⟩) n cap) n xs) (hD : ¬ D = g) (cs : Array Value) : (w.setRow D cs).ownsRow base e size (.slice (some ⟨g, 0, none⟩) n cap) n xs :=
 yA h (setRow_other w D g cs (fun e => hD e.symm))
theorem RI (w : World) (q : Qv) (s : St) (i v : Int) :
 Calls prog 32 #[.agg #[Value.int .i64 s.first, .int .i64 s.aa, .slice q.Q1 s.ax.length q.c1, .slice q.Q2 s.aj.length q.c2, .slice q.Q3 s.an.length q.c3, .int .i64 s.seq, .int .i64 s.block, .int .i64 s.av, .slice q.Q4 q.n4 q.c4, .slice q.Q5 q.n5 q.c5, .int .i64 q.pg, .int .i64 q.er, .int .i64 q.nb, .int .i64 q.ns, .bool true], .int .i64 i, .int .i64 v] w fun e w' => e = .returned (.tuple #[.agg #[Value.int .i64 s.first, .int .i64 s.aa, .slice q.Q1 s.ax.length q.c1, .slice q.Q2 s.aj.length q.c2, .slice q.Q3 s.an.length q.c3, .int .i64 s.seq, .int .i64 s.block, .int .i64 s.av, .slice q.Q4 q.n4 q.c4, .slice q.Q5 q.n5 q.c5, .int .i64 q.pg, .int .i64 q.er, .int .i64 q.nb, .int .i64 q.ns, .bool true], .int .i64 20]) ∧ bW w w' := by
 obtain ⟨W, hW⟩ := ex ((w.alloc (.cells #[Value.int .i64 s.first, .int .i64 s.aa, .slice q.Q1 s.ax.length q.c1, .slice q.Q2 s.aj.length q.c2, .slice q.Q3 s.an.length q.c3, .int .i64 s.seq, .int .i64 s.block, .int .i64 s.av, .slice q.Q4 q.n4 q.c4, .slice q.Q5 q.n5 q.c5, .int .i64 q.pg, .int .i64 q.er, .int .i64 q.nb, .int .i64 q.ns, .bool true] 43)).alloc (.cells #[.int .i64 0, .int .i64 0, .slice none 0 0, .slice none 0 0, .slice none 0 0, .int .i64 0, .int .i64 0, .int .i64 0, .slice none 0 0, .slice none 0 0, .int .i64 0, .int .i64 0, .int .i64 0, .int .i64 0, .bool false] 43))
 have HX := iD (Hx.new hW.symm ⟨_, rfl, rfl⟩)
 have tQ := HX.row 14 rfl
 go_enter func32, ntmps32
 go_upto_region 2 with (fail)
 try rw [hW]
 clear hW
 refine wp_region_list ?_
 refine wpList_load_row rfl 43 _ rfl w.heap.size rfl 43 _ (0, 0) _ HX.h underlying43 rfl aP ?_
 obtain ⟨gY, iF, jV⟩ := HX.h8
 refine wpList_store_row rfl 43 _ _ rfl (w.heap.size + 1) _ rfl rfl 43 gY jV aP iF (iv ..) ?_
 go_wp2
 (try simp only [Exit.inBlock, Exit.then])
 refine bodyPost_ret (v := .tuple #[.agg #[Value.int .i64 s.first, .int .i64 s.aa, .slice q.Q1 s.ax.length q.c1, .slice q.Q2 s.aj.length q.c2, .slice q.Q3 s.an.length q.c3, .int .i64 s.seq, .int .i64 s.block, .int .i64 s.av, .slice q.Q4 q.n4 q.c4, .slice q.Q5 q.n5 q.c5, .int .i64 q.pg, .int .i64 q.er, .int .i64 q.nb, .int .i64 q.ns, .bool true], .int .i64 20]) (cN (p := 6) (u := 7) rfl _ _ (w.heap.size + 1) 43 #[Value.int .i64 s.first, .int .i64 s.aa, .slice q.Q1 s.ax.length q.c1, .slice q.Q2 s.aj.length q.c2, .slice q.Q3 s.an.length q.c3, .int .i64 s.seq, .int .i64 s.block, .int .i64 s.av, .slice q.Q4 q.n4 q.c4, .slice q.Q5 q.n5 q.c5, .int .i64 q.pg, .int .i64 q.er, .int .i64 q.nb, .int .i64 q.ns, .bool true] (0, 0) _ rfl (setRow_heap _ _ _ _ _ _ jV) underlying43 rfl aP) rfl ⟨rfl, below_setRow HX.below HX.Ja.2 _⟩
theorem RH (w : World) (q : Qv) (s : St) (i v : Int) (hn : s.ax.length ≤ 48) (hi : i < 0 ∨ (s.ax.length : Int) ≤ i) :
 Calls prog 32 #[.agg #[Value.int .i64 s.first, .int .i64 s.aa, .slice q.Q1 s.ax.length q.c1, .slice q.Q2 s.aj.length q.c2, .slice q.Q3 s.an.length q.c3, .int .i64 s.seq, .int .i64 s.block, .int .i64 s.av, .slice q.Q4 q.n4 q.c4, .slice q.Q5 q.n5 q.c5, .int .i64 q.pg, .int .i64 q.er, .int .i64 q.nb, .int .i64 q.ns, .bool false], .int .i64 i, .int .i64 v] w fun e w' => e = .returned (.tuple #[.agg #[Value.int .i64 s.first, .int .i64 s.aa, .slice q.Q1 s.ax.length q.c1, .slice q.Q2 s.aj.length q.c2, .slice q.Q3 s.an.length q.c3, .int .i64 s.seq, .int .i64 s.block, .int .i64 s.av, .slice q.Q4 q.n4 q.c4, .slice q.Q5 q.n5 q.c5, .int .i64 q.pg, .int .i64 q.er, .int .i64 q.nb, .int .i64 q.ns, .bool false], .int .i64 10]) ∧ bW w w' := by
 generalize s.ax.length = n at hn hi ⊢
 obtain ⟨W, hW⟩ := ex ((w.alloc (.cells #[Value.int .i64 s.first, .int .i64 s.aa, .slice q.Q1 n q.c1, .slice q.Q2 s.aj.length q.c2, .slice q.Q3 s.an.length q.c3, .int .i64 s.seq, .int .i64 s.block, .int .i64 s.av, .slice q.Q4 q.n4 q.c4, .slice q.Q5 q.n5 q.c5, .int .i64 q.pg, .int .i64 q.er, .int .i64 q.nb, .int .i64 q.ns, .bool false] 43)).alloc (.cells #[.int .i64 0, .int .i64 0, .slice none 0 0, .slice none 0 0, .slice none 0 0, .int .i64 0, .int .i64 0, .int .i64 0, .slice none 0 0, .slice none 0 0, .int .i64 0, .int .i64 0, .int .i64 0, .int .i64 0, .bool false] 43))
 have HX := iD (Hx.new hW.symm ⟨_, rfl, rfl⟩)
 have tQ := HX.row 14 rfl
 have r2 := HX.row 2 rfl
 by_cases h0 : i < 0
 all_goals
  have h0' : decide (i < 0) = decide (i < 0) := rfl
  have h1 : ¬ i < 0 → (n : Int) ≤ i := oM
 ·clear hi h1 h0'
  go_enter func32, ntmps32
  go_upto_region 4 with (fail)
  try rw [hW]
  clear hW
  refine wp_region_list ?_
  refine wpList_load_row rfl 43 _ rfl w.heap.size rfl 43 _ (0, 0) _ HX.h underlying43 rfl aP ?_
  obtain ⟨gY, iF, jV⟩ := HX.h8
  refine wpList_store_row rfl 43 _ _ rfl (w.heap.size + 1) _ rfl rfl 43 gY jV aP iF (iv ..) ?_
  go_wp2
  (try simp only [Exit.inBlock, Exit.then])
  refine bodyPost_ret (v := .tuple #[.agg #[Value.int .i64 s.first, .int .i64 s.aa, .slice q.Q1 n q.c1, .slice q.Q2 s.aj.length q.c2, .slice q.Q3 s.an.length q.c3, .int .i64 s.seq, .int .i64 s.block, .int .i64 s.av, .slice q.Q4 q.n4 q.c4, .slice q.Q5 q.n5 q.c5, .int .i64 q.pg, .int .i64 q.er, .int .i64 q.nb, .int .i64 q.ns, .bool false], .int .i64 10]) (cN (p := 6) (u := 7) rfl _ _ (w.heap.size + 1) 43 #[Value.int .i64 s.first, .int .i64 s.aa, .slice q.Q1 n q.c1, .slice q.Q2 s.aj.length q.c2, .slice q.Q3 s.an.length q.c3, .int .i64 s.seq, .int .i64 s.block, .int .i64 s.av, .slice q.Q4 q.n4 q.c4, .slice q.Q5 q.n5 q.c5, .int .i64 q.pg, .int .i64 q.er, .int .i64 q.nb, .int .i64 q.ns, .bool false] (0, 0) _ rfl (setRow_heap _ _ _ _ _ _ jV) underlying43 rfl aP) rfl ⟨rfl, below_setRow HX.below HX.Ja.2 _⟩
 have h2 := h1 h0
 have h3 : decide (i < 0) = false := by simpa using h0
 clear hi h1 h0'
 go_enter func32, ntmps32
 go_upto_region 4 with (fail)
 try rw [hW]
 clear hW
 refine wp_region_list ?_
 refine wpList_load_row rfl 43 _ rfl w.heap.size rfl 43 _ (0, 0) _ HX.h underlying43 rfl aP ?_
 obtain ⟨gY, iF, jV⟩ := HX.h8
 refine wpList_store_row rfl 43 _ _ rfl (w.heap.size + 1) _ rfl rfl 43 gY jV aP iF (iv ..) ?_
 go_wp2
 (try simp only [Exit.inBlock, Exit.then])
 refine bodyPost_ret (v := .tuple #[.agg #[Value.int .i64 s.first, .int .i64 s.aa, .slice q.Q1 n q.c1, .slice q.Q2 s.aj.length q.c2, .slice q.Q3 s.an.length q.c3, .int .i64 s.seq, .int .i64 s.block, .int .i64 s.av, .slice q.Q4 q.n4 q.c4, .slice q.Q5 q.n5 q.c5, .int .i64 q.pg, .int .i64 q.er, .int .i64 q.nb, .int .i64 q.ns, .bool false], .int .i64 10]) (cN (p := 6) (u := 7) rfl _ _ (w.heap.size + 1) 43 #[Value.int .i64 s.first, .int .i64 s.aa, .slice q.Q1 n q.c1, .slice q.Q2 s.aj.length q.c2, .slice q.Q3 s.an.length q.c3, .int .i64 s.seq, .int .i64 s.block, .int .i64 s.av, .slice q.Q4 q.n4 q.c4, .slice q.Q5 q.n5 q.c5, .int .i64 q.pg, .int .i64 q.er, .int .i64 q.nb, .int .i64 q.ns, .bool false] (0, 0) _ rfl (setRow_heap _ _ _ _ _ _ jV) underlying43 rfl aP) rfl ⟨rfl, below_setRow HX.below HX.Ja.2 _⟩
theorem RF (w : World) (q : Qv) (s : St) (i : Nat) (v : Int) (p : eB) (hn : s.ax.length ≤ 48) (hA : cn X w q.Q1 (bK s.ax)) (hp : s.ax[i]? = some p) (hv : v < p.lo ∨ p.hi < v) :
 Calls prog 32 #[.agg #[Value.int .i64 s.first, .int .i64 s.aa, .slice q.Q1 s.ax.length q.c1, .slice q.Q2 s.aj.length q.c2, .slice q.Q3 s.an.length q.c3, .int .i64 s.seq, .int .i64 s.block, .int .i64 s.av, .slice q.Q4 q.n4 q.c4, .slice q.Q5 q.n5 q.c5, .int .i64 q.pg, .int .i64 q.er, .int .i64 q.nb, .int .i64 q.ns, .bool false], .int .i64 (i : Int), .int .i64 v] w fun e w' => e = .returned (.tuple #[.agg #[Value.int .i64 s.first, .int .i64 s.aa, .slice q.Q1 s.ax.length q.c1, .slice q.Q2 s.aj.length q.c2, .slice q.Q3 s.an.length q.c3, .int .i64 s.seq, .int .i64 s.block, .int .i64 s.av, .slice q.Q4 q.n4 q.c4, .slice q.Q5 q.n5 q.c5, .int .i64 q.pg, .int .i64 q.er, .int .i64 q.nb, .int .i64 q.ns, .bool false], .int .i64 3]) ∧ bW w w' := by
 have hi := (List.getElem?_eq_some_iff.1 hp).1
 obtain ⟨b, off, hQ, c0, c1, c2⟩ := hA.rd.F7 hp
 rw [hQ]
 have HQ := iD hQ
 have HP := iD hp
 have HA := iD hA
 generalize s.ax.length = n at hn hi ⊢
 clear hQ hp hA
 obtain ⟨W, hW⟩ := ex ((w.alloc (.cells #[Value.int .i64 s.first, .int .i64 s.aa, .slice (some ⟨b, off, none⟩) n q.c1, .slice q.Q2 s.aj.length q.c2, .slice q.Q3 s.an.length q.c3, .int .i64 s.seq, .int .i64 s.block, .int .i64 s.av, .slice q.Q4 q.n4 q.c4, .slice q.Q5 q.n5 q.c5, .int .i64 q.pg, .int .i64 q.er, .int .i64 q.nb, .int .i64 q.ns, .bool false] 43)).alloc (.cells #[.int .i64 0, .int .i64 0, .slice none 0 0, .slice none 0 0, .slice none 0 0, .int .i64 0, .int .i64 0, .int .i64 0, .slice none 0 0, .slice none 0 0, .int .i64 0, .int .i64 0, .int .i64 0, .int .i64 0, .bool false] 43))
 have HX := iD (Hx.new hW.symm ⟨_, rfl, rfl⟩)
 have tQ := HX.row 14 rfl
 have r2 := HX.row 2 rfl
 have HB := HX.below
 have g0 := (HB.cell (p := ⟨b, off + i * 3, none⟩) (World.block_lt_of_cell? w _ c0)).trans c0
 have g1 := (HB.cell (p := ⟨b, off + i * 3 + 1, none⟩) (World.block_lt_of_cell? w _ c1)).trans c1
 have ur := iD HB
 have Sr : decide ((i : Int) < 0) = false := by simp
 have hi1 : decide (n ≤ i) = false := by simpa using hi
 by_cases h0 : v < p.lo
 ·clear hv c0 c1 c2 HB
  go_enter func32, ntmps32
  go_upto_region 6 with (fail)
  try rw [hW]
  clear hW
  refine wp_region_list ?_
  refine wpList_load_row rfl 43 _ rfl w.heap.size rfl 43 _ (0, 0) _ HX.h underlying43 rfl aP ?_
  obtain ⟨gY, iF, jV⟩ := HX.h8
  refine wpList_store_row rfl 43 _ _ rfl (w.heap.size + 1) _ rfl rfl 43 gY jV aP iF (iv ..) ?_
  go_wp2
  (try simp only [Exit.inBlock, Exit.then])
  refine bodyPost_ret (v := .tuple #[.agg #[Value.int .i64 s.first, .int .i64 s.aa, .slice (some ⟨b, off, none⟩) n q.c1, .slice q.Q2 s.aj.length q.c2, .slice q.Q3 s.an.length q.c3, .int .i64 s.seq, .int .i64 s.block, .int .i64 s.av, .slice q.Q4 q.n4 q.c4, .slice q.Q5 q.n5 q.c5, .int .i64 q.pg, .int .i64 q.er, .int .i64 q.nb, .int .i64 q.ns, .bool false], .int .i64 3]) (cN (p := 6) (u := 7) rfl _ _ (w.heap.size + 1) 43 #[Value.int .i64 s.first, .int .i64 s.aa, .slice (some ⟨b, off, none⟩) n q.c1, .slice q.Q2 s.aj.length q.c2, .slice q.Q3 s.an.length q.c3, .int .i64 s.seq, .int .i64 s.block, .int .i64 s.av, .slice q.Q4 q.n4 q.c4, .slice q.Q5 q.n5 q.c5, .int .i64 q.pg, .int .i64 q.er, .int .i64 q.nb, .int .i64 q.ns, .bool false] (0, 0) _ rfl (setRow_heap _ _ _ _ _ _ jV) underlying43 rfl aP) rfl ⟨rfl, below_setRow HX.below HX.Ja.2 _⟩
 have h2 : p.hi < v := oM
 have h3 : decide (v < p.lo) = false := by simpa using h0
 clear hv c0 c1 c2 HB
 go_enter func32, ntmps32
 go_upto_region 6 with (fail)
 try rw [hW]
 clear hW
 refine wp_region_list ?_
 refine wpList_load_row rfl 43 _ rfl w.heap.size rfl 43 _ (0, 0) _ HX.h underlying43 rfl aP ?_
 obtain ⟨gY, iF, jV⟩ := HX.h8
 refine wpList_store_row rfl 43 _ _ rfl (w.heap.size + 1) _ rfl rfl 43 gY jV aP iF (iv ..) ?_
 go_wp2
 (try simp only [Exit.inBlock, Exit.then])
 refine bodyPost_ret (v := .tuple #[.agg #[Value.int .i64 s.first, .int .i64 s.aa, .slice (some ⟨b, off, none⟩) n q.c1, .slice q.Q2 s.aj.length q.c2, .slice q.Q3 s.an.length q.c3, .int .i64 s.seq, .int .i64 s.block, .int .i64 s.av, .slice q.Q4 q.n4 q.c4, .slice q.Q5 q.n5 q.c5, .int .i64 q.pg, .int .i64 q.er, .int .i64 q.nb, .int .i64 q.ns, .bool false], .int .i64 3]) (cN (p := 6) (u := 7) rfl _ _ (w.heap.size + 1) 43 #[Value.int .i64 s.first, .int .i64 s.aa, .slice (some ⟨b, off, none⟩) n q.c1, .slice q.Q2 s.aj.length q.c2, .slice q.Q3 s.an.length q.c3, .int .i64 s.seq, .int .i64 s.block, .int .i64 s.av, .slice q.Q4 q.n4 q.c4, .slice q.Q5 q.n5 q.c5, .int .i64 q.pg, .int .i64 q.er, .int .i64 q.nb, .int .i64 q.ns, .bool false] (0, 0) _ rfl (setRow_heap _ _ _ _ _ _ jV) underlying43 rfl aP) rfl ⟨rfl, below_setRow HX.below HX.Ja.2 _⟩
theorem RG (w : World) (q : Qv) (s : St) (i : Nat) (v : Int) (p : eB) (hX : ∀ b, X b → b < w.heap.size) (hn : s.ax.length ≤ 48) (dV : s.aj.length = s.ax.length) (hA : cn X w q.Q1 (bK s.ax)) (hS : cn X w q.Q2 (aw s.aj)) (mB : s.aj.length ≤ q.c2) (sT : q.c2 ≤ maxLen) 
 (hp : s.ax[i]? = some p) (hv : p.lo ≤ v ∧ v ≤ p.hi) :
 Calls prog 32 #[.agg #[Value.int .i64 s.first, .int .i64 s.aa, .slice q.Q1 s.ax.length q.c1, .slice q.Q2 s.aj.length q.c2, .slice q.Q3 s.an.length q.c3, .int .i64 s.seq, .int .i64 s.block, .int .i64 s.av, .slice q.Q4 q.n4 q.c4, .slice q.Q5 q.n5 q.c5, .int .i64 q.pg, .int .i64 q.er, .int .i64 q.nb, .int .i64 q.ns, .bool false], .int .i64 (i : Int), .int .i64 v] w fun e w' => ∃ g c', e = .returned (.tuple #[.agg #[Value.int .i64 s.first, .int .i64 s.aa, .slice q.Q1 s.ax.length q.c1, .slice (some ⟨g, 0, none⟩) s.aj.length c', .slice q.Q3 s.an.length q.c3, .int .i64 s.seq, .int .i64 s.block, .int .i64 s.av, .slice q.Q4 q.n4 q.c4, .slice q.Q5 q.n5 q.c5, .int .i64 q.pg, .int .i64 q.er, .int .i64 q.nb, .int .i64 q.ns, .bool false], .int .i64 0]) ∧ bW w w' ∧ cn X w' (some ⟨g, 0, none⟩) (aw (s.aj.set i v)) ∧ s.aj.length ≤ c' ∧ c' ≤ maxLen := by
 have hi := (List.getElem?_eq_some_iff.1 hp).1
 obtain ⟨b, off, hQ, c0, c1, c2⟩ := hA.rd.F7 hp
 rw [hQ]
 have HQ := iD hQ
 have HP := iD hp
 have HS := iD hS
 have MG := iD hX
 obtain ⟨n, Uc⟩ := ex s.ax.length
 rw [dV]
 rw [dV] at mB
 rw [Uc] at hn hi dV mB ⊢
 have eW := iD dV
 have zj : Hid ((aw s.aj).length = n * 1) := by rw [Hid, cj, dV]; omega
 obtain ⟨x, hx⟩ := getElem?_of_lt (l := s.aj) (k := i) (by rw [dV]; exact hi)
 have HXI := iD hx
 obtain ⟨i3, vU, kE, jN, lh⟩ := info_parts mq
 have nQ : 0 ≤ maxLen := Nat.zero_le _
 unfold maxLen at sT
 obtain ⟨W, hW⟩ := ex ((w.alloc (.cells #[Value.int .i64 s.first, .int .i64 s.aa, .slice (some ⟨b, off, none⟩) n q.c1, .slice q.Q2 n q.c2, .slice q.Q3 s.an.length q.c3, .int .i64 s.seq, .int .i64 s.block, .int .i64 s.av, .slice q.Q4 q.n4 q.c4, .slice q.Q5 q.n5 q.c5, .int .i64 q.pg, .int .i64 q.er, .int .i64 q.nb, .int .i64 q.ns, .bool false] 43)).alloc (.cells #[.int .i64 0, .int .i64 0, .slice none 0 0, .slice none 0 0, .slice none 0 0, .int .i64 0, .int .i64 0, .int .i64 0, .slice none 0 0, .slice none 0 0, .int .i64 0, .int .i64 0, .int .i64 0, .int .i64 0, .bool false] 43))
 have HX := iD (Hx.new hW.symm ⟨_, rfl, rfl⟩)
 have tQ := HX.row 14 rfl
 have r2 := HX.row 2 rfl
 have r3 := HX.row 3 rfl
 have HB := HX.below
 have g0 := (HB.cell (p := ⟨b, off + i * 3, none⟩) (World.block_lt_of_cell? w _ c0)).trans c0
 have g1 := (HB.cell (p := ⟨b, off + i * 3 + 1, none⟩) (World.block_lt_of_cell? w _ c1)).trans c1
 have ur := iD HB
 have Sr : decide ((i : Int) < 0) = false := by simp
 have hi1 : decide (n ≤ i) = false := by simpa using hi
 obtain ⟨iE, jB⟩ := hv
 have yN : decide (v < p.lo) = false := by simpa using iE
 have Qa : decide (p.hi < v) = false := by simpa using jB
 have ZS : (W.alloc (.cells #[] 3)).cell? ⟨w.heap.size, 3, none⟩ = some (.slice q.Q2 n q.c2) := ((bI W _).cell (p := ⟨w.heap.size, 3, none⟩) (World.block_lt_of_cell? W _ r3)).trans r3
 clear c0 c1 c2 HB Uc dV hp hA hS hX hQ hx iE jB
 go_enter func32, ntmps32
 go_upto_region 7 with (fail)
 try rw [hW]
 clear hW
 go_wp2_with (at_builtin; refine aM _ rfl _ _ 33 rfl w.heap.size 3 i3 (.int .i64 0) 1 8 underlying33 vU kE jN lh rfl oM _ 0 [] rfl (World.ownsRow_lit W #[] 0 ur.size nQ rfl) w.heap.size _ n q.c2 (aw s.aj) rfl ((HS.rd.below ur cV).below (bI W _) ur.size) zj (mW _) (by unfold maxLen; omega) oM (by have := ur.size; simp; omega) ?_)
 intro v5 w5 hown5 hgrow5 _
 have ke : w5.ownsRow w.heap.size 3 1 v5 n (aw s.aj) := by simpa using hown5
 have AE : Hid (Hx w w5 w.heap.size (w.heap.size + 1) #[Value.int .i64 s.first, .int .i64 s.aa, .slice (some ⟨b, off, none⟩) n q.c1, .slice q.Q2 n q.c2, .slice q.Q3 s.an.length q.c3, .int .i64 s.seq, .int .i64 s.block, .int .i64 s.av, .slice q.Q4 q.n4 q.c4, .slice q.Q5 q.n5 q.c5, .int .i64 q.pg, .int .i64 q.er, .int .i64 q.nb, .int .i64 q.ns, .bool false]) :=
  (HX.ab (bI W _)).grown hgrow5 (fun e => by have hk' : some W.heap.size = some w.heap.size := e; injection hk' with hk'; have := HX.lt.1; omega) (fun e => by have hk' : some W.heap.size = some (w.heap.size + 1) := e; injection hk' with hk'; have := HX.lt.2; omega) (fun k e => by have hk' : some W.heap.size = some k := e; injection hk' with hk'; have := HX.lt.1; omega)
 obtain ⟨Q, cq, rfl, Dp, AY, tY⟩ := a9 ke
 obtain ⟨g, rfl, ub, vV⟩ := tY oM
 have SK : ¬ w.heap.size = g := yB ke AE.h (by decide)
 have hD2 : ¬ w.heap.size + 1 = g := by
  obtain ⟨dX, _, h8⟩ := AE.h8
  exact yB ke h8 (by decide)
 have hD1' : ¬ g = w.heap.size := fun e => SK e.symm
 have z3 := AE.row 3 rfl
 have zf := AE.fz 3
 have y0 := KN eW ke HXI
 have yf : w5.frozen? ⟨g, i, none⟩ = false := ke.frozenAt i
 have MR := iD ke
 clear hown5 hgrow5 ke r2 r3 tQ ZS g0 g1
 go_upto_region 9 with (fail)
 have J0 : Hid (Hx w ((w5.setCell ⟨w.heap.size, 3, none⟩ (.slice (some ⟨g, 0, none⟩) n cq)).setCell ⟨g, i, none⟩ (.int .i64 v)) w.heap.size (w.heap.size + 1) #[Value.int .i64 s.first, .int .i64 s.aa, .slice (some ⟨b, off, none⟩) n q.c1, .slice (some ⟨g, 0, none⟩) n cq, .slice q.Q3 s.an.length q.c3, .int .i64 s.seq, .int .i64 s.block, .int .i64 s.av, .slice q.Q4 q.n4 q.c4, .slice q.Q5 q.n5 q.c5, .int .i64 q.pg, .int .i64 q.er, .int .i64 q.nb, .int .i64 q.ns, .bool false]) :=
  (AE.set 3 (.slice (some ⟨g, 0, none⟩) n cq)).Uy (.int .i64 v) ub SK hD2
 have xc : Hid (((w5.setCell ⟨w.heap.size, 3, none⟩ (.slice (some ⟨g, 0, none⟩) n cq)).setCell ⟨g, i, none⟩ (.int .i64 v)).ownsRow w.heap.size 3 1 (.slice (some ⟨g, 0, none⟩) n cq) n (aw (s.aj.set i v))) :=
  sG (NY MR SK) i v
 generalize (w5.setCell ⟨w.heap.size, 3, none⟩ (.slice (some ⟨g, 0, none⟩) n cq)).setCell ⟨g, i, none⟩ (.int .i64 v) = W9 at J0 xc ⊢
 clear z3 zf y0 yf
 refine wp_region_list ?_
 refine wpList_load_row rfl 43 _ rfl w.heap.size rfl 43 _ (0, 0) _ J0.h underlying43 rfl aP ?_
 obtain ⟨gY, iF, jV⟩ := J0.h8
 refine wpList_store_row rfl 43 _ _ rfl (w.heap.size + 1) _ rfl rfl 43 gY jV aP iF (iv ..) ?_
 go_wp2
 (try simp only [Exit.inBlock, Exit.then])
 refine bodyPost_ret (v := .tuple #[.agg #[Value.int .i64 s.first, .int .i64 s.aa, .slice (some ⟨b, off, none⟩) n q.c1, .slice (some ⟨g, 0, none⟩) n cq, .slice q.Q3 s.an.length q.c3, .int .i64 s.seq, .int .i64 s.block, .int .i64 s.av, .slice q.Q4 q.n4 q.c4, .slice q.Q5 q.n5 q.c5, .int .i64 q.pg, .int .i64 q.er, .int .i64 q.nb, .int .i64 q.ns, .bool false], .int .i64 0]) (cN (p := 6) (u := 7) rfl _ _ (w.heap.size + 1) 43 #[Value.int .i64 s.first, .int .i64 s.aa, .slice (some ⟨b, off, none⟩) n q.c1, .slice (some ⟨g, 0, none⟩) n cq, .slice q.Q3 s.an.length q.c3, .int .i64 s.seq, .int .i64 s.block, .int .i64 s.av, .slice q.Q4 q.n4 q.c4, .slice q.Q5 q.n5 q.c5, .int .i64 q.pg, .int .i64 q.er, .int .i64 q.nb, .int .i64 q.ns, .bool false] (0, 0) _ rfl (setRow_heap _ _ _ _ _ _ jV) underlying43 rfl aP) rfl ⟨g, cq, rfl, below_setRow J0.below J0.Ja.2 _, ?_, Dp, AY⟩
 refine cn.own (by rw [cj, List.length_set]; exact eW) (Eb xc hD2 _) (fun k hk hx => ?_)
 have e : g = k := by simpa [Value.ownBlock] using hk
 have := MG k hx
 omega
theorem FW {q : Qv} {p : Nat} (h : ic X w q s p) (ho : bD f s) (hX : ∀ b, X b → b < w.heap.size) (i v : Int) :
 Calls prog 32 #[q.v s, .int .i64 i, .int .i64 v] w fun e w' => ∃ q' : Qv, e = .returned (.tuple #[q'.v (aV s i v), .int .i64 (gf s i v)]) ∧ ic X w' q' (aV s i v) p ∧ bW w w' := by
 have stay : ∀ k : Int, gf s i v = k → k ≠ 0 → aV s i v = s := fun k e hk => by unfold aV; rw [e, iN hk]
 by_cases hb : s.af = true
 ·have he : gf s i v = 20 := by unfold gf; rw [iP hb]
  rw [stay 20 he (by decide), he]
  have := RI w q s i v
  unfold Qv.v
  rw [hb]
  exact this.mono fun e w' ⟨h1, h2⟩ => ⟨q, h1, h.below h2, h2⟩
 have cU : s.af = false := by simpa using hb
 by_cases hi : i < 0 ∨ (s.ax.length : Int) ≤ i
 ·have he : gf s i v = 10 := by unfold gf; rw [iN hb, iP hi]
  rw [stay 10 he (by decide), he]
  have := RH w q s i v ho.n2 hi
  unfold Qv.v
  rw [cU]
  exact this.mono fun e w' ⟨h1, h2⟩ => ⟨q, h1, h.below h2, h2⟩
 obtain ⟨k, rfl⟩ := Int.eq_ofNat_of_zero_le (a := i) oM
 obtain ⟨pr, hp⟩ := getElem?_of_lt (l := s.ax) (k := k) oM
 have he := Hk (v := v) cU rfl oM hp
 by_cases hv : pr.lo ≤ v ∧ v ≤ pr.hi
 ·rw [iP hv] at he
  have hs : aV s k v = { s with aj := s.aj.set k v } := by unfold aV; rw [iP he, Int.toNat_natCast]
  rw [hs, he]
  have := RG w q s k v pr hX ho.n2 ho.tl h.a h.b h.b1 h.b2 hp hv
  unfold Qv.v
  rw [cU]
  refine this.mono fun e w' ⟨g, c', h1, h2, h3, h4, h5⟩ => ⟨{ q with Q2 := some ⟨g, 0, none⟩, c2 := c' }, ?_, ?_, h2⟩
  ·rw [h1]
   simp only [List.length_set, cU]
  have hl := h.below h2
  exact ⟨hl.a, hl.a1, hl.a2, h3, by simpa using h4, h5, hl.c, hl.QK, hl.QJ, hl.d1, hl.d2, hl.e1, hl.e2, fun _ e2 => ⟨(hl.wr cU e2).vr, (hl.wr cU e2).vl, (hl.wr cU e2).pr, (hl.wr cU e2).pl, (hl.wr cU e2).qq, (hl.wr cU e2).er, (hl.wr cU e2).nb, (hl.wr cU e2).ns⟩, fun _ e2 => hl.no cU e2⟩
 rw [iN hv] at he
 rw [stay 3 he (by decide), he]
 have := RF w q s k v pr ho.n2 h.a hp oM
 unfold Qv.v
 rw [cU]
 exact this.mono fun e w' ⟨h1, h2⟩ => ⟨q, h1, h.below h2, h2⟩
def QH (d : TypeDesc) : Bool := match d with | .struct _ | .array _ _ => true | _ => false
section
variable {fn : Func} {R : Ending → World → Prop} {a : Go.Act} {w : World} {p p' u v ty AU g g' : Nat} {t t' : TypeId} {C C' : Array Value} {d d' : TypeDesc}
theorem wV {Q : Exit → Go.Act → World → Prop} {rest : List Oper} {a' : Go.Act} (v : Value) (h : wpList prog ops Q rest a' w) (hg : o.guard = none := by exact rfl) (he : (execOp a.eval o).run prog w = .ok (.value v) w := by first | rfl | go_simp) (ha : a.put o.dst (v) = a' := by first | (simp only [nm]; rfl) | rfl) : wpList prog ops Q (o :: rest) a w := by
 subst ha
 exact wpList_plain hg fun _ hK => (by unfold Oper.wp; rw [he]; exact hK _ _ h)
theorem rI (h : fn.results = #[.cell p ty, .tmp u]) (hg : w.heap[g]? = some (.cells C t (0, 0))) (hs : (prog.info? ty).map (·.size) = some C.size) (hR : R (.returned (.tuple #[.agg C, a.tmps.getD u undef])) w) (hp : a.tmps.getD p undef = .pointer (some ⟨g, 0, none⟩) := by exact rfl) (hu : prog.underlying ty = some d := by first | exact underlying45 | exact underlying43 | exact underlying35) (hd : QH d = true := by exact rfl) (hf : a.defers = [] := by exact rfl) : bodyPost prog fn R .ret a w :=
 bodyPost_ret (cN h _ _ g t C (0, 0) d hp hg hu (by cases d <;> first | rfl | simp [QH] at hd) hs) hf hR
end
structure Same (s t : St) : Prop where
 ax : t.ax = s.ax
 first : t.first = s.first
 aa : t.aa = s.aa
theorem Same.refl (s : St) : Same s s := ⟨rfl, rfl, rfl⟩
theorem Same.trans {a b c : St} (h : Same a b) (k : Same b c) : Same a c := ⟨k.ax.trans h.ax, k.first.trans h.first, k.aa.trans h.aa⟩
theorem eG (s : St) (i v : Int) : Same s (aV s i v) := by unfold aV; split <;> exact ⟨rfl, rfl, rfl⟩
theorem lK (s : St) (f : Fl) : Same s (aZ s f) := by
 unfold aZ
 obtain ⟨p1, p2, p3, _⟩ := ik (ga s f) f
 split
 ·exact ⟨p3, p1, p2⟩
 exact ⟨rfl, rfl, rfl⟩
theorem DP (s : St) : Same s (ct s) := by unfold ct; split <;> exact ⟨rfl, rfl, rfl⟩
theorem mJ (s : St) (f : Fl) : Same s (aI s f).1 := by
 unfold aI
 have h := DP s
 split
 ·exact .refl s
 split
 ·exact .refl s
 split
 ·exact ⟨h.ax, h.first, h.aa⟩
 split
 ·exact h
 exact ⟨h.ax, h.first, h.aa⟩
theorem Hn (n : Nat) (s : St) (f : Fl) : Same s (iZ n s f).1 := by
 induction n generalizing s f with
 | zero => exact .refl s
 | succ n ih =>
  rw [fq]
  split
  ·exact mJ s f
  exact (mJ s f).trans (ih _ _)
theorem rz (s : St) (f : Fl) : Same s (aA s f).1 := by
 unfold aA
 split
 ·exact lK s f
 exact (lK s f).trans (Hn _ _ _)
inductive Th (s : St) (q : St × Fl × Int) : Prop
 | last : q.2.2 = 0 → dU q.2.1 q.1 → q.1.bt = false → q.1.an = s.values → q.1.aj = s.aj → Th s q
 | dead : q.2.2 = 20 → xm q.2.1 q.1 → q.1.an = s.an → q.1.values = s.values → Th s q
theorem dU.run (h : dU f s) (hb : s.bt = true) {n : Nat} (hn : iR s ≤ n) : Th s (iZ n s f) := by
 induction n generalizing s f with
 | zero => have := qN h.ok h.br hb; omega
 | succ n ih =>
  have hs := h.step hb
  rw [fq]
  cases hs with
  | more a1 a2 a3 a4 a5 a6 a7 =>
   have hl := sK h.ok h.br hb a1 a2
   rw [iN (by rw [a1, a2]; simp)]
   cases ih a3 a4 oM with
   | last b1 b2 b3 b4 b5 => exact .last b1 b2 b3 (b4.trans a6) (b5.trans a7)
   | dead b1 b2 b3 b4 => exact .dead b1 b2 (b3.trans a5) (b4.trans a6)
  | last a1 a2 a3 a4 a5 a6 =>
   rw [iP (.inl a1)]
   exact .last a2 a3 a4 a5 a6
  | dead a1 a2 a3 a4 a5 =>
   rw [iP (.inr (by rw [a2]; decide))]
   exact .dead a2 a3 a4 a5
theorem gI (h : aO s f = 0) : (aZ s f).bt = true ∧ (aZ s f).values = s.aj ∧ (aZ s f).an = s.an ∧ (aZ s f).aj = s.aj ∧ (aZ s f).done = 0 := by
 obtain ⟨p1, p2, p3, p4, p5, _⟩ := ik (ga s f) f
 unfold aZ
 rw [iP h]
 exact ⟨rfl, rfl, p4, p5, rfl⟩
theorem qp (ho : bD f s) (h : aO s f = 0) : iR (aZ s f) ≤ 10 := by
 have hb := (gI h).1
 have Gs := mx (f := f) ho
 have hp := Gs.pl hb
 have hk := Gs.k8
 unfold iR
 split <;> omega
theorem dU.iY (h : dU f s) (he : aO s f ≠ 0) : aZ s f = s := by
 unfold aZ
 rw [iN he, h.UB]
def ej (f : Fl) (s : St) (an : List Int) (FK : Option (List Int)) : Prop :=
 s.an = an ∧ ((dU f s ∧ FK = if s.bt = true then some s.values else none) ∨ (xm f s ∧ FK = some s.values))
theorem ej.ok {w : Option (List Int)} (h : ej f s v w) : bD f s := by
 rcases h.2 with ⟨a, _⟩ | ⟨a, _⟩
 ·exact a.ok
 exact a.ok
theorem ej.wv {w : Option (List Int)} (h : ej f s v w) : f.ok := by
 rcases h.2 with ⟨a, _⟩ | ⟨a, _⟩
 ·exact a.wv
 exact a.wv
theorem ej.set {w : Option (List Int)} (h : ej f s v w) (hx : dH x) : ej f (aV s i x) v w := by
 obtain ⟨h1, h2⟩ := h
 rcases h2 with ⟨a, b⟩ | ⟨a, b⟩
 ·have hs : (aV s i x).an = s.an ∧ (aV s i x).bt = s.bt ∧ (aV s i x).values = s.values := by unfold aV; split <;> exact ⟨rfl, rfl, rfl⟩
  exact ⟨hs.1.trans h1, .inl ⟨a.set hx, by rw [hs.2.1, hs.2.2]; exact b⟩⟩
 have hs : aV s i x = s := by
  have : gf s i x = 20 := by unfold gf; rw [iP a.br]
  unfold aV
  rw [this, iN (by decide)]
 rw [hs]
 exact ⟨h1, .inr ⟨a, b⟩⟩
theorem xm.UB (h : xm f s) : ga s f = s := by
 unfold ga
 have := h.br
 cases s
 simp_all
theorem xm.begin (h : xm f s) : aO s f = 20 ∧ aZ s f = s := by
 have he : aO s f = 20 := by unfold aO; rw [h.br, Bool.true_or, iP rfl]
 refine ⟨he, ?_⟩
 unfold aZ
 rw [he, iN (by decide), h.UB]
theorem ej.begin {w : Option (List Int)} (h : ej f s v w) : ej f (aZ s f) v (if aO s f = 0 then some s.aj else w) := by
 obtain ⟨h1, h2⟩ := h
 rcases h2 with ⟨a, b⟩ | ⟨a, b⟩
 ·by_cases he : aO s f = 0
  ·obtain ⟨e1, e2, e3, e4, _⟩ := gI he
   rw [iP he]
   exact ⟨e3.trans h1, .inl ⟨a.begin, by rw [e1, iP rfl, e2]⟩⟩
  rw [iN he, a.iY he]
  exact ⟨h1, .inl ⟨a, b⟩⟩
 obtain ⟨e1, e2⟩ := a.begin
 rw [e1, iN (by decide), e2]
 exact ⟨h1, .inr ⟨a, b⟩⟩
theorem ej.step {w : Option (List Int)} (h : ej f s v w) :
 if (aI s f).2.2.1 = true ∧ (aI s f).2.2.2 = 0 then ∃ u, w = some u ∧ ej (aI s f).2.1 (aI s f).1 u none else ej (aI s f).2.1 (aI s f).1 v w := by
 obtain ⟨h1, h2⟩ := h
 rcases h2 with ⟨a, b⟩ | ⟨a, b⟩
 ·by_cases hb : s.bt = true
  ·rw [iP hb] at b
   cases a.step hb with
   | more a1 a2 a3 a4 a5 a6 a7 =>
    rw [iN (by rw [a1]; simp)]
    exact ⟨a5.trans h1, .inl ⟨a3, by rw [a4, iP rfl, a6]; exact b⟩⟩
   | last a1 a2 a3 a4 a5 a6 =>
    rw [iP ⟨a1, a2⟩]
    exact ⟨_, b, a5, .inl ⟨a3, by rw [a4]; simp⟩⟩
   | dead a1 a2 a3 a4 a5 =>
    rw [iN (by rw [a1]; simp)]
    exact ⟨a4.trans h1, .inr ⟨a3, by rw [a5]; exact b⟩⟩
  have hq : aI s f = (s, f, false, 12) := by unfold aI; rw [iN (by rw [a.br]; decide), iP (by simpa using hb)]
  rw [hq, iN (by simp)]
  exact ⟨h1, .inl ⟨a, b⟩⟩
 have hq : aI s f = (s, f, false, 20) := by unfold aI; rw [iP a.br]
 rw [hq, iN (by simp)]
 exact ⟨h1, .inr ⟨a, b⟩⟩
theorem ry (h : aO s f ≠ 0) : aA s f = (aZ s f, f, aO s f) := by unfold aA; rw [iP h]
theorem Ax (s : St) (f : Fl) : (aO s f = 20 ∧ (s.af || f.aF) = true) ∨ aO s f = 14 ∨ aO s f = 12 ∨ aO s f = 3 ∨ aO s f = 0 := by
 unfold aO
 split
 ·rename_i h
  exact .inl ⟨rfl, h⟩
 split
 ·exact .inr (.inl rfl)
 split
 ·exact .inr (.inr (.inl rfl))
 unfold fX
 split
 ·exact .inr (.inr (.inr (.inl rfl)))
 exact .inr (.inr (.inr (.inr rfl)))
theorem ej.wO {w : Option (List Int)} (h : ej f s v w) :
 (((aA s f).2.2 = 0 ∧ ej (aA s f).2.1 (aA s f).1 s.aj none) ∨ ((aA s f).2.2 = 20 ∧ ej (aA s f).2.1 (aA s f).1 v (if w = none then some s.aj else w)) ∨
  ((aA s f).2.2 ≠ 0 ∧ (aA s f).2.2 ≠ 20 ∧ ej (aA s f).2.1 (aA s f).1 v w)) := by
 obtain ⟨h1, h2⟩ := h
 rcases h2 with ⟨a, b⟩ | ⟨a, b⟩
 ·by_cases he : aO s f = 0
  ·have hc : aA s f = iZ 10 (aZ s f) f := by unfold aA; rw [iN (by rw [he]; decide)]
   obtain ⟨e1, e2, e3, e4, _⟩ := gI he
   obtain ⟨_, _, zV, _⟩ := jE he
   rw [zV] at b
   rw [hc]
   cases a.begin.run e1 (qp a.ok he) with
   | last b1 b2 b3 b4 b5 => exact .inl ⟨b1, b4.trans e2, .inl ⟨b2, by rw [b3]; simp⟩⟩
   | dead b1 b2 b3 b4 =>
    refine .inr (.inl ⟨b1, b3.trans (e3.trans h1), .inr ⟨b2, ?_⟩⟩)
    rw [b, b4, e2]
    simp
  rw [ry he, a.iY he]
  rcases Ax s f with ⟨_, e⟩ | e | e | e | e
  ·rw [a.br, a.up] at e; cases e
  ·exact .inr (.inr ⟨he, by rw [e]; simp, h1, .inl ⟨a, b⟩⟩)
  ·exact .inr (.inr ⟨he, by rw [e]; simp, h1, .inl ⟨a, b⟩⟩)
  ·exact .inr (.inr ⟨he, by rw [e]; simp, h1, .inl ⟨a, b⟩⟩)
  exact absurd e he
 obtain ⟨e1, e2⟩ := a.begin
 rw [ry (by rw [e1]; decide), e1, e2]
 refine .inr (.inl ⟨rfl, h1, .inr ⟨a, ?_⟩⟩)
 rw [b]
 simp
theorem dU.fl (h : dU f s) (hi : g.img = f.img) (hp : g.pg = f.pg) (hw : g.aq = f.aq) (hd : g.aF = f.aF) (dc : g.ok) : dU g s := by
 have nf : ∀ x, aB g x = aB f x := fun x => by unfold aB; rw [hi]
 have Nd : ∀ b j, aG s g b j = aG s f b j := fun b j => by unfold aG; rw [hp]
 refine ⟨dc, h.ok.shape ⟨hp, by rw [hw]⟩, hd.trans h.up, h.br, fun x h1 h2 => ?_, h.new.congr rfl rfl hp (fun b j _ _ => dD rfl rfl hp (fun i _ => nf _)), h.q0, h.xq, h.uT, fun hb => ⟨(h.Bv hb).cO, (h.Bv hb).vl, (h.Bv hb).lg, (h.Bv hb).ne, (h.Bv hb).nx, (h.Bv hb).er, fun he i hi => ?_⟩⟩
 ·rw [nf]
  rw [hp] at h1 h2
  exact h.Bu x h1 h2
 rw [Nd, nf]
 exact (h.Bv hb).pre he i hi
theorem xm.fl (h : xm f s) (hi : g.img = f.img) (hp : g.pg = f.pg) (hw : g.aq = f.aq) (hd : g.aF = f.aF) (dc : g.ok) : xm g s := by
 have nf : ∀ x, aB g x = aB f x := fun x => by unfold aB; rw [hi]
 have hc : ∀ c, eY f s c → eY g s c := fun c hn => hn.congr rfl rfl hp (fun b j _ _ => dD rfl rfl hp (fun i _ => nf _))
 refine ⟨dc, h.ok.shape ⟨hp, by rw [hw]⟩, hd.trans h.dn, h.br, h.bu, fun x h1 h2 => ?_, h.new.elim (fun e => .inl (hc _ e)) (fun e => .inr ⟨hc _ e.1, e.2⟩), h.xq, h.Z3, h.q0⟩
 rw [nf]
 rw [hp] at h1 h2
 exact h.Bu x h1 h2
theorem ej.be {w : Option (List Int)} (h : ej f s v w) (hp : Bytes p) (hn : n < 9223372036854775808) : ej (fM f n p) s v w := by
 have dc := nW (n := n) h.wv hp hn
 obtain ⟨h1, h2⟩ := h
 rcases h2 with ⟨a, b⟩ | ⟨a, b⟩
 ·exact ⟨h1, .inl ⟨a.fl rfl rfl rfl rfl dc, b⟩⟩
 exact ⟨h1, .inr ⟨a.fl rfl rfl rfl rfl dc, b⟩⟩
theorem ij (f : Fl) : (aR f).img = f.img ∧ (aR f).pg = f.pg ∧ (aR f).aq = f.aq ∧ (aR f).aF = false := by
 unfold aR
 split
 ·exact ⟨rfl, rfl, rfl, rfl⟩
 rename_i h
 exact ⟨rfl, rfl, rfl, by simpa using h⟩
theorem ej.again {w : Option (List Int)} (h : ej f s v w) (fh : s.ax.any fA = false) :
 cJ (aR f) s.first s.aa s.ax = 0 ∧ ej (aR f) (aJ (aR f) s.first s.aa s.ax) (aJ (aR f) s.first s.aa s.ax).an none ∧
 ((aJ (aR f) s.first s.aa s.ax).an = v ∨ w = some (aJ (aR f) s.first s.aa s.ax).an) ∧ Same s (aJ (aR f) s.first s.aa s.ax) := by
 obtain ⟨i1, i2, i3, i4⟩ := ij f
 have dc := me h.wv
 obtain ⟨h1, h2⟩ := h
 have key : ∀ cur, eY f s cur → bD f s → (∀ x, s.first * f.pg ≤ x → x < (s.first + s.aa) * f.pg → rC (aB f x)) → (∀ q b j v, cur = some (q, b, j, v) → Lg s.ax v) →
  ((∀ q b j u, cur = some (q, b, j, u) → u = v ∨ w = some u) ∧ (cur = none → s.ax.map eB.df = v)) →
  cJ (aR f) s.first s.aa s.ax = 0 ∧ ej (aR f) (aJ (aR f) s.first s.aa s.ax) (aJ (aR f) s.first s.aa s.ax).an none ∧
  ((aJ (aR f) s.first s.aa s.ax).an = v ∨ w = some (aJ (aR f) s.first s.aa s.ax).an) ∧ Same s (aJ (aR f) s.first s.aa s.ax) := by
  intro cur hn ho ht hl hv
  obtain ⟨e1, e2⟩ := yF hn ho i1 i2 (by rw [i3]) dc i4 ht fh hl
  refine ⟨e1, ⟨rfl, .inl ⟨e2.live, by rw [e2.bt]; simp⟩⟩, ?_, ⟨e2.ax, e2.first, e2.aa⟩⟩
  cases cur with
  | none => exact .inl ((e2.no rfl).1.trans (hv.2 rfl))
  | some c =>
   obtain ⟨q, b, j, u⟩ := c
   have hr := e2.rc
   unfold fZ at hr
   split at hr
   ·cases hr
   injection hr with hr
   simp only [Prod.mk.injEq] at hr
   rw [hr.2.2.2]
   exact hv.1 q b j u rfl
 have kY : ∀ (l : Lg s.ax s.an), ∀ q b j u, fZ s = some (q, b, j, u) → Lg s.ax u ∧ u = s.an := by
  intro l q b j u e
  unfold fZ at e
  split at e
  ·cases e
  injection e with e
  simp only [Prod.mk.injEq] at e
  rw [← e.2.2.2]
  exact ⟨l, rfl⟩
 have Sz : ∀ (hq : s.av = -1 → s.an = s.ax.map eB.df), fZ s = none → s.ax.map eB.df = v := by
  intro hq e
  unfold fZ at e
  split at e
  ·rename_i e'
   rw [← hq e', h1]
  cases e
 rcases h2 with ⟨a, b⟩ | ⟨a, b⟩
 ·exact key _ a.new a.ok a.Bu (fun q b j u e => (kY a.xq q b j u e).1) ⟨fun q b j u e => .inl ((kY a.xq q b j u e).2.trans h1), Sz (fun e => (a.q0 e).2.2)⟩
 rcases a.new with hn | ⟨hn, _⟩
 ·exact key _ hn a.ok a.Bu (fun q b j u e => (kY a.xq q b j u e).1) ⟨fun q b j u e => .inl ((kY a.xq q b j u e).2.trans h1), Sz (fun e => (a.q0 e).2)⟩
 have hwv := b
 refine key _ hn a.ok a.Bu (fun q b j u e => ?_) ⟨fun q b j u e => ?_, fun e => by cases e⟩
 ·injection e with e
  simp only [Prod.mk.injEq] at e
  rw [← e.2.2.2]
  exact a.Z3
 injection e with e
 simp only [Prod.mk.injEq] at e
 right
 rw [← e.2.2.2]
 exact hwv
theorem ej.first (hf : f.ok) (cB : ∀ x, x < f.aq.length * f.pg → aB f x = cM) (hs : ∀ p ∈ sp, p.ok) (he : cJ f fi bl sp = 0) :
 ej f (aJ f fi bl sp) (sp.map eB.df) none ∧ dU f (aJ f fi bl sp) ∧ (aJ f fi bl sp).an = sp.map eB.df ∧ (aJ f fi bl sp).aj = sp.map eB.df ∧ (aJ f fi bl sp).bt = false ∧ (aJ f fi bl sp).av = -1 ∧ (aJ f fi bl sp).block = 0 ∧ (aJ f fi bl sp).ax = sp ∧ (aJ f fi bl sp).first = fi ∧ (aJ f fi bl sp).aa = bl := by
 obtain ⟨hd, b2, Zf, f0, f1, n1, KZ, fh, vS⟩ := jn he
 have dc := kz hs he
 obtain ⟨s0, fp⟩ := ex (dM fi bl sp)
 have LB : ∀ b j, b < s0.aa → j < bm s0 f → eU f s0 b j = none := by
  intro b j h1 h2
  have hk : s0.k = cO sp.length := by rw [← fp]; rfl
  have xv := jZ n1
  have hT : bm s0 f = f.pg / cO sp.length := by rw [← fp]; rfl
  have OG : s0.aa = bl := by rw [← fp]; rfl
  rw [OG] at h1
  rw [hT] at h2
  have h3 : (j + 1) * cO sp.length ≤ f.pg := by
   have := Nat.mul_le_mul_right (cO sp.length) (show j + 1 ≤ f.pg / cO sp.length by omega)
   exact Nat.le_trans this (Nat.div_mul_le_self _ _)
  rw [Nat.add_mul, Nat.one_mul] at h3
  have h4 : (fi + b + 1) * f.pg ≤ f.aq.length * f.pg := Nat.mul_le_mul_right _ oM
  rw [Nat.add_mul (fi + b), Nat.one_mul] at h4
  have hp : aG s0 f b j = (fi + b) * f.pg + j * cO sp.length := by unfold aG; rw [hk, ← fp]; rfl
  refine kv (i := 0) oM ?_
  rw [hp, cB _ oM]
  exact kV
 have hn : eY f s0 none := LB
 have gG := kB (f := f) (s0 := s0) (by rw [← fp]; rfl) hn
 simp only at gG
 have ht : aJ f fi bl sp = { s0 with aj := s0.an } := by
  unfold aJ
  rw [fp, show f.pg / cO sp.length = bm s0 f by rw [← fp]; rfl, show bl = s0.aa by rw [← fp]; rfl, gG]
 rw [ht] at dc ⊢
 have e1 : s0.av = -1 := by rw [← fp]; rfl
 have e2 : s0.an = sp.map eB.df := by rw [← fp]; rfl
 have e3 : s0.block = 0 := by rw [← fp]; rfl
 have e4 : s0.bt = false := by rw [← fp]; rfl
 have e5 : s0.af = false := by rw [← fp]; rfl
 have e6 : s0.first = fi := by rw [← fp]; rfl
 have e7 : s0.aa = bl := by rw [← fp]; rfl
 have e8 : s0.ax = sp := by rw [← fp]; rfl
 have e9 : s0.seq = 0 := by rw [← fp]; rfl
 have qh : fZ { s0 with aj := s0.an } = none := by unfold fZ; rw [iP e1]
 have Cl : dU f { s0 with aj := s0.an } := by
  refine ⟨hf, dc, hd, e5, fun x h1 h2 => ?_, ?_, fun _ => ⟨e9, e3, by simp only [e8]; exact e2⟩, by simp only [e8, e2]; exact tU fh, by simp only [e8, e2]; exact tU fh, fun e => by simp only [e4] at e; cases e⟩
  ·simp only [e6, e7] at h2
   have : (fi + bl) * f.pg ≤ f.aq.length * f.pg := Nat.mul_le_mul_right _ oM
   rw [cB x oM]
   exact rC.blank
  rw [qh]
  exact hn.congr rfl rfl rfl (fun b j _ _ => dD rfl rfl rfl (fun _ _ => rfl))
 exact ⟨⟨e2, .inl ⟨Cl, by simp only [e4]; simp⟩⟩, Cl, e2, e2, e4, e1, e3, e8, e6, e7⟩
section
variable {f g : Fl} (h : fC f g)
include h
theorem fC.BC (s : St) : bm s g = bm s f := by unfold bm; rw [h.pg]
theorem fC.aG (s : St) (b j : Nat) : YtjdknddnanopaaaGreat.aG s g b j = YtjdknddnanopaaaGreat.aG s f b j := by unfold YtjdknddnanopaaaGreat.aG; rw [h.pg]
theorem fC.bZ (a n : Nat) : bT g a n = bT f a n := by
 unfold bT
 congr 1
 funext i
 exact h.page _
theorem fC.blank (a n : Nat) : cG g a n = cG f a n := by
 unfold cG
 congr 1
 funext i
 rw [h.page]
theorem fC.free (s : St) : jW s g = jW s f := by
 unfold jW
 rw [h.BC]
 congr 1
 funext j
 rw [h.aG, h.blank]
theorem fC.place (s : St) : bj s g = bj s f := by
 unfold bj
 rw [h.free, h.aG, h.blank, h.pg]
theorem fC.UB (s : St) : ga s g = ga s f := by unfold ga; rw [h.aF]
theorem fC.aO (s : St) : YtjdknddnanopaaaGreat.aO s g = YtjdknddnanopaaaGreat.aO s f := by unfold YtjdknddnanopaaaGreat.aO; rw [h.aF]
theorem fC.aZ (s : St) : YtjdknddnanopaaaGreat.aZ s g = YtjdknddnanopaaaGreat.aZ s f := by
 unfold YtjdknddnanopaaaGreat.aZ
 rw [h.aO, h.UB, h.place]
theorem fC.op (s : St) : (eV s g).2 = (eV s f).2 ∧ fC (eV s f).1 (eV s g).1 := by
 unfold eV
 split
 ·exact h.erase _
 rw [h.aG]
 exact h.prog _ _
theorem fC.step (s : St) : (aI s g).1 = (aI s f).1 ∧ (aI s g).2.2 = (aI s f).2.2 ∧ fC (aI s f).2.1 (aI s g).2.1 := by
 obtain ⟨h1, h2⟩ := h.op s
 unfold aI
 rw [h1]
 split
 ·exact ⟨rfl, rfl, h⟩
 split
 ·exact ⟨rfl, rfl, h⟩
 split
 ·exact ⟨rfl, rfl, h2⟩
 split
 ·exact ⟨rfl, rfl, h2⟩
 exact ⟨rfl, rfl, h2⟩
end
theorem fC.run (h : fC f g) (n : Nat) (s : St) : (iZ n s g).1 = (iZ n s f).1 ∧ (iZ n s g).2.2 = (iZ n s f).2.2 ∧ fC (iZ n s f).2.1 (iZ n s g).2.1 := by
 induction n generalizing s f g with
 | zero => exact ⟨rfl, rfl, h⟩
 | succ n ih =>
  obtain ⟨h1, h2, h3⟩ := h.step s
  rw [fq, fq, h1, h2]
  split
  ·exact ⟨rfl, rfl, h3⟩
  exact ih h3 _
theorem fC.wO (h : fC f g) (s : St) : (aA s g).1 = (aA s f).1 ∧ (aA s g).2.2 = (aA s f).2.2 ∧ fC (aA s f).2.1 (aA s g).2.1 := by
 unfold aA
 rw [h.aO, h.aZ]
 split
 ·exact ⟨rfl, rfl, h⟩
 exact h.run 10 _
theorem fC.cJ (h : fC f g) (a b : Int) (sp : List eB) : YtjdknddnanopaaaGreat.cJ g a b sp = YtjdknddnanopaaaGreat.cJ f a b sp := by
 unfold YtjdknddnanopaaaGreat.cJ
 rw [h.aF, h.aq, h.pg]
theorem fC.cT (h : fC f g) (s : St) (b j : Nat) : YtjdknddnanopaaaGreat.cT g s b j = YtjdknddnanopaaaGreat.cT f s b j := by
 unfold YtjdknddnanopaaaGreat.cT
 rw [h.aG, h.bZ]
theorem fC.ea (h : fC f g) (b : Nat) (s : St) (n : Nat) : YtjdknddnanopaaaGreat.ea g b s n = YtjdknddnanopaaaGreat.ea f b s n := by
 induction n with
 | zero => rfl
 | succ n ih => rw [dP, dP, ih, h.cT]
theorem fC.cS (h : fC f g) (n : Nat) (s : St) (m : Nat) : YtjdknddnanopaaaGreat.cS g n s m = YtjdknddnanopaaaGreat.cS f n s m := by
 induction m with
 | zero => rfl
 | succ m ih => rw [eZ, eZ, ih, h.ea]
theorem fC.aJ (h : fC f g) (a b : Nat) (sp : List eB) : YtjdknddnanopaaaGreat.aJ g a b sp = YtjdknddnanopaaaGreat.aJ f a b sp := by
 unfold YtjdknddnanopaaaGreat.aJ
 rw [h.pg, h.cS]
theorem mg (s : St) (i v : Int) : (aV s i v).seq = s.seq := by unfold aV; split <;> rfl
theorem na (s : St) (f : Fl) : (aZ s f).seq = s.seq := by
 unfold aZ
 obtain ⟨_, _, _, _, _, p, _⟩ := ik (ga s f) f
 split
 ·exact p
 rfl
theorem G7 (s : St) : (ct s).seq = s.seq := by unfold ct; split <;> rfl
theorem ss (s : St) (f : Fl) : (aI s f).1.seq = s.seq + if (aI s f).2.2.1 = true then 1 else 0 := by
 unfold aI
 have h := G7 s
 split
 ·simp
 split
 ·simp
 split
 ·simp only [Bool.false_eq_true, if_false, Int.add_zero]; exact h
 split
 ·simp only [Bool.false_eq_true, if_false, Int.add_zero]; exact h
 simp only [kO, if_true, h]
theorem Ky (n : Nat) (s : St) (f : Fl) : (iZ n s f).1.seq ≤ s.seq + 1 := by
 induction n generalizing s f with
 | zero => simp only [iZ]; omega
 | succ n ih =>
  have h := ss s f
  rw [fq]
  split
  ·simp only
   rw [h]
   split <;> omega
  rename_i hc
  have hd : ¬ (aI s f).2.2.1 = true := fun e => hc (.inl e)
  rw [iN hd] at h
  have := ih (aI s f).1 (aI s f).2.1
  omega
theorem oc (s : St) (f : Fl) : (aA s f).1.seq ≤ s.seq + 1 := by
 unfold aA
 split
 ·rw [na]; omega
 have := Ky 10 (aZ s f) f
 rw [na] at this
 exact this
def gB (f : Fl) (s : St) (n : Int) : Prop := (∃ v o, ej f s v o) ∧ s.seq ≤ n
theorem gB.ok (h : gB f s n) : bD f s := by
 obtain ⟨⟨v, o, h⟩, _⟩ := h
 exact h.ok
theorem gB.wv (h : gB f s n) : f.ok := by
 obtain ⟨⟨v, o, h⟩, _⟩ := h
 exact h.wv
theorem gB.more {m : Int} (h : gB f s n) (hm : n ≤ m) : gB f s m := ⟨h.1, Int.le_trans h.2 hm⟩
theorem gB.set (h : gB f s n) (hx : dH x) : gB f (aV s i x) n := by
 obtain ⟨⟨v, o, h⟩, h2⟩ := h
 exact ⟨⟨v, o, h.set hx⟩, by rw [mg]; exact h2⟩
theorem gB.begin (h : gB f s n) : gB f (aZ s f) n := by
 obtain ⟨⟨v, o, h⟩, h2⟩ := h
 exact ⟨⟨_, _, h.begin⟩, by rw [na]; exact h2⟩
theorem gB.step (h : gB f s n) : gB (aI s f).2.1 (aI s f).1 (n + 1) := by
 obtain ⟨⟨v, o, h⟩, h2⟩ := h
 refine ⟨?_, by rw [ss]; split <;> omega⟩
 have h3 := h.step
 split at h3
 ·obtain ⟨u, _, h3⟩ := h3
  exact ⟨_, _, h3⟩
 exact ⟨_, _, h3⟩
theorem gB.wO (h : gB f s n) : gB (aA s f).2.1 (aA s f).1 (n + 1) := by
 obtain ⟨⟨v, o, h⟩, h2⟩ := h
 refine ⟨?_, by have := oc s f; omega⟩
 rcases h.wO with ⟨_, h3⟩ | ⟨_, h3⟩ | ⟨_, _, h3⟩
 ·exact ⟨_, _, h3⟩
 ·exact ⟨_, _, h3⟩
 exact ⟨_, _, h3⟩
theorem gB.be (h : gB f s n) {k : Int} (hp : Bytes p) (hk : k < 9223372036854775808) : gB (fM f k p) s n := by
 obtain ⟨⟨v, o, h⟩, h2⟩ := h
 exact ⟨⟨_, _, h.be hp hk⟩, h2⟩
theorem gB.again (h : gB f s n) (fh : s.ax.any fA = false) :
 cJ (aR f) s.first s.aa s.ax = 0 ∧ gB (aR f) (aJ (aR f) s.first s.aa s.ax) (n + 1) ∧ Same s (aJ (aR f) s.first s.aa s.ax) := by
 obtain ⟨⟨v, o, h⟩, h2⟩ := h
 obtain ⟨a1, a2, a3, a4⟩ := h.again fh
 refine ⟨a1, ⟨⟨_, _, a2⟩, ?_⟩, a4⟩
 obtain ⟨i1, i2, i3, i4⟩ := ij f
 have key : ∀ cur, eY f s cur → bD f s → (∀ x, s.first * f.pg ≤ x → x < (s.first + s.aa) * f.pg → rC (aB f x)) → (∀ q b j v, cur = some (q, b, j, v) → Lg s.ax v) →
  (∀ q b j u, cur = some (q, b, j, u) → q ≤ s.seq + 1) → (aJ (aR f) s.first s.aa s.ax).seq ≤ s.seq + 1 := by
  intro cur hn ho ht hl hv
  obtain ⟨e1, e2⟩ := yF hn ho i1 i2 (by rw [i3]) (me h.wv) i4 ht fh hl
  have hr := e2.rc
  have hq := ho.q1
  unfold fZ at hr
  split at hr
  ·rename_i lQ
   have := (e2.live.q0 lQ).1
   omega
  exact hv _ _ _ _ hr.symm
 have kY : ∀ q b j u, fZ s = some (q, b, j, u) → q = s.seq ∧ u = s.an := by
  intro q b j u e
  unfold fZ at e
  split at e
  ·cases e
  injection e with e
  simp only [Prod.mk.injEq] at e
  exact ⟨e.1.symm, e.2.2.2.symm⟩
 have goal : (aJ (aR f) s.first s.aa s.ax).seq ≤ s.seq + 1 := by
  rcases h.2 with ⟨a, _⟩ | ⟨a, _⟩
  ·exact key _ a.new a.ok a.Bu (fun q b j u e => by rw [(kY q b j u e).2]; exact a.xq) (fun q b j u e => by rw [(kY q b j u e).1]; omega)
  rcases a.new with hn | hn
  ·exact key _ hn a.ok a.Bu (fun q b j u e => by rw [(kY q b j u e).2]; exact a.xq) (fun q b j u e => by rw [(kY q b j u e).1]; omega)
  refine key _ hn.1 a.ok a.Bu (fun q b j u e => ?_) (fun q b j u e => ?_)
  ·injection e with e
   simp only [Prod.mk.injEq] at e
   rw [← e.2.2.2]
   exact a.Z3
  injection e with e
  simp only [Prod.mk.injEq] at e
  omega
 omega
theorem gB.first (hf : f.ok) (cB : ∀ x, x < f.aq.length * f.pg → aB f x = cM) (hs : ∀ p ∈ sp, p.ok) (he : cJ f fi bl sp = 0) :
 gB f (aJ f fi bl sp) 0 ∧ (aJ f fi bl sp).bt = false ∧ (aJ f fi bl sp).ax = sp ∧ (aJ f fi bl sp).first = fi ∧ (aJ f fi bl sp).aa = bl := by
 obtain ⟨h1, h2, _, _, h3, h4, _, h5, h6, h7⟩ := ej.first hf cB hs he
 exact ⟨⟨⟨_, _, h1⟩, by rw [(h2.q0 h4).1]; exact Int.le_refl _⟩, h3, h5, h6, h7⟩
theorem gB.br (h : gB f s n) : s.af = f.aF := by
 obtain ⟨⟨v, o, _, h⟩, _⟩ := h
 rcases h with ⟨a, _⟩ | ⟨a, _⟩
 ·rw [a.br, a.up]
 rw [a.br, a.dn]
theorem gB.enc (h : gB f s n) (hn : n < 1000000) : fX (s.seq + 1) s.aj.length = 0 := by
 have ho := h.ok
 have := ho.q1
 have := ho.n1
 have := ho.n2
 have := ho.tl
 have := h.2
 unfold fX
 rw [iN oM]
end Go.Proofs.YtjdknddnanopaaaGreat
