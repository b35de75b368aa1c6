/-
  Part 12 of the proof.
-/
import Derived.Test.YtjdknddnanopaaaGreatR11
namespace Go.Proofs.YtjdknddnanopaaaGreat
open Go.RowKit Tryz
set_option maxRecDepth 100000
set_option maxHeartbeats 16000000
set_option linter.all false
variable {f g : Fl} {s : St} {w : World} {a first i k m n p : Nat} {X : Nat → Prop} {q : Qv} {b img : List Int} {x : Rc} {P : Program} {ops : Array Oper} {rest : List Oper} {o : Oper} {aa : Int}
theorem Ax (h : iE X w q s g.pg) (hR : ca X w x g) (ho : bC g s) (hX : ∀ b, X b → b < w.heap.size) (nt : s.af = g.aF) (mZ : s.bt = false → fU (s.seq + 1) s.aj.length = 0) :
 Calls prog 83 #[q.v s, x.v g] w fun e w' => ∃ q' : Qv, e = .returned (.tuple #[q'.v (aZ s g), .int .i64 (aO s g)]) ∧ iE X w' q' (aZ s g) g.pg ∧ bW w w' := by
 have Wv : fX s g = s := by
  unfold fX
  rw [nt, Bool.or_self]
  cases s
  simp only at nt
  rw [nt]
 have stay : aO s g ≠ 0 → aZ s g = s := fun e => by unfold aZ; rw [iN e, Wv]
 by_cases hb : s.af = true
 ·have he : aO s g = 20 := by unfold aO; rw [hb, Bool.true_or, iP rfl]
  rw [stay (by rw [he]; decide), he]
  have := Ms w q s x g
  unfold Qv.v
  rw [hb]
  exact this.mono fun e w' ⟨h1, h2⟩ => ⟨q, h1, h.below h2, h2⟩
 have dO : s.af = false := by simpa using hb
 have hd : g.aF = false := by rw [← nt]; exact dO
 by_cases hu : s.bt = true
 ·have he : aO s g = 14 := by unfold aO; rw [dO, hd, iN (by decide), iP hu]
  rw [stay (by rw [he]; decide), he]
  have hw := h.wr dO hu
  have qo := ho.dn hu dO
  have fA := ho.pl hu
  have jE := ho.k8
  have JO : q.n5 = s.k - s.done := by rw [← hw.pl, List.length_drop, fA]
  have := Mp w q s x g q.n5 q.c5 oM oM
  unfold Qv.v Rc.v
  rw [dO, hd]
  exact this.mono fun e w' ⟨h1, h2⟩ => ⟨q, h1, h.below h2, h2⟩
 have ql : s.bt = false := by simpa using hu
 have xw := h.no dO ql
 obtain ⟨n, gT⟩ := ex s.aw.length
 have xN : s.aj.length = n := by rw [ho.tl, gT]
 have lR : s.saved.length = n := by rw [ho.sl, gT]
 have uw := ho.n2
 rw [gT] at uw
 by_cases nO : s.aj = s.saved
 ·have he : aO s g = 12 := by unfold aO; rw [dO, hd, iN (by decide), iN hu, iP nO]
  rw [stay (by rw [he]; decide), he]
  have := Mq w q s x g n q.c5 uw h.b h.c xN lR nO
  unfold Qv.v Rc.v
  rw [dO, hd, xw, gT, xN, lR]
  exact this.mono fun e w' ⟨h1, h2⟩ => ⟨q, by rw [h1, xw], h.below h2, h2⟩
 have henc' := mZ ql
 rw [xN] at henc'
 have he : aO s g = 0 := by unfold aO; rw [dO, hd, iN (by decide), iN hu, iN nO, xN]; exact henc'
 have hS : aZ s g = { bj s g with cf := dV (s.seq + 1) s.aj, values := s.aj, done := 0, bt := true } := by unfold aZ; rw [iP he, Wv]
 have qm := h.b1
 rw [xN] at qm
 have := Mr w q s x g n q.c5 h.b h.c xN lR hR hX hd ho gT nO henc' qm h.b2
 unfold Qv.v Rc.v
 rw [dO, hd, xw, gT, xN, lR]
 refine this.mono ?_
 rintro e w' ⟨Q8, c8, Q9, c9, nb, ns, er, h1, h2, h3, h4, h5, h6, h7, h8, h9⟩
 obtain ⟨p1, p2, p3, p4, p5, p6, p7, p8, p9⟩ := iq s g
 have fA : (bj s g).bH = nb ∧ (bj s g).bg = ns ∧ er = if (bj s g).erase = true then ((s.first + nb : Nat) : Int) else -1 := by
  unfold bj
  rcases h9 with ⟨e1, e2, e3⟩ | ⟨e1, e2, e3, e4⟩
  ·rw [e1]
   exact ⟨e2.symm, rfl, e3⟩
  rw [e1]
  subst e3
  refine ⟨e2.symm, rfl, ?_⟩
  simp only
  rw [← e2, e4]
  cases cG g (aG s g nb 0) g.pg <;> rfl
 obtain ⟨rR, Dw, hp3⟩ := fA
 have hl := h.below h2
 have hk : cN n = (bj s g).k := by unfold St.k; rw [p3, gT]
 refine ⟨{ q with Q4 := Q8, n4 := n, c4 := c8, Q5 := Q9, n5 := cN n, c5 := c9, pg := (((s.first + nb) * g.pg + ns * cN n : Nat) : Int), er := er, nb := nb, ns := ns }, ?_, ?_, h2⟩
 ·rw [h1, hS, he]
  simp only [p1, p2, p3, p4, p5, p6, p7, p8, dO, gT, xN, lR, p9]
 rw [hS]
 refine ⟨by simp only [p3]; exact hl.a, by simp only [p3]; exact hl.a1, hl.a2, by simp only [p5]; exact hl.b, by simp only [p5]; exact hl.b1, hl.b2, by simp only [p4]; exact hl.c, by simp only [p4]; exact hl.Rf, hl.Re, h5, h6, h7, h8, fun _ _ => ⟨h3, xN, by simp only [List.drop_zero]; exact h4, by simp only [List.drop_zero]; rw [wE, xN], ?_, ?_, by simp only [rR], by simp only [Dw]⟩, fun _ e => by cases e⟩
 ·simp only [rR, Dw, p1, Nat.add_zero]
  unfold St.k
  simp only [p3, gT]
 simp only [rR, p1]
 exact hp3
theorem mG {a : Act} {Q : Exit → Act → World → Prop} {v : Value} (hg : o.guard = none) (he : (execOp a.eval o).run P w = .ok (.value v) w) 
 (h : wpList P ops Q rest (a.put o.dst v) w) : wpList P ops Q (o :: rest) a w :=
 wpList_plain hg fun _ hK => (by unfold Oper.wp; rw [he]; exact hK _ _ h)
theorem jZ {a : Act} {Q : Exit → Act → World → Prop} {al : List Value} (hg : o.guard = none) 
 (xl : List Operand) (JZ : Array TypeId) (ho : o.op = .call { callee := .value (.func n), args := xl.toArray, argTypes := JZ }) (hargs : xl.map a.eval = al) (vU : ∀ (args : Array Value) (w : World), (callFunc n args).run P w = .ok (.enter n args) w)
 (h : Calls P n al.toArray w fun e w' => ∃ v, e = .returned v ∧ wpList P ops Q rest (a.put o.dst v) w') : wpList P ops Q (o :: rest) a w := by
 refine wpList_plain hg fun _ hK => ?_
 have he : (execOp a.eval o).run P w = .ok (.enter n al.toArray) w := by
  obtain ⟨dst, op, ty, pos, after, guard⟩ := o
  simp only at ho
  subst ho
  rw [execOp_call_go, show (#[] ++ xl.toArray.map a.eval ++ #[] : Array Value) = al.toArray by rw [← hargs]; simp]
  exact vU _ _
 unfold Oper.wp
 rw [he, Oper.upon_enter]
 refine h.mono ?_
 rintro e w' ⟨v, rfl, h1⟩
 exact hK _ _ h1
def La (D : Nat) (w : World) : Nat :=
 (match w.cell? ⟨D, 9, none⟩ with | some (.slice _ n _) => n | _ => 0) + (match w.cell? ⟨D, 11, none⟩ with | some (.int _ k) => (if 0 ≤ k then 1 else 0) | _ => 0)
structure Yz (X : Nat → Prop) (w wr : World) (NL : St × Fl × Int) (n : Nat) (q : Qv) (s : St) (y : Rc) (f : Fl) (p : Nat) : Prop where
 hy : Hy w wr (q.l s).toArray (y.l f).toArray
 rv : iE (XN X w.heap.size) wr q s p
 rf : ca (XN X w.heap.size) wr y f
 ok : bC f s
 b : s.af = false
 u : s.bt = true
 left : iU s ≤ n
 run : NL = ja n s f
 pg : f.pg = p
theorem Yz.lf {wr : World} {NL : St × Fl × Int} {y : Rc} (h : Yz X w wr NL n q s y f p) : La w.heap.size wr = iU s := by
 have h9 := h.hy.row 9 (u := .slice q.Q5 q.n5 q.c5) rfl
 have h11 := h.hy.row 11 (u := .int .i64 q.er) rfl
 have hw := h.rv.wr h.b h.u
 unfold La iU
 rw [h9, h11]
 simp only
 have h1 := hw.pl
 rw [List.length_drop] at h1
 rw [← h1, hw.er]
 by_cases he : s.erase = true
 ·rw [iP he, iP he, iP oM]
 rw [iN he, iN he, iN (by decide)]
theorem iE.xn {w' : World} (h : iE X w q s p) (hX : ∀ b, X b → b < w.heap.size) (hb : bW w w') : iE (XN X w.heap.size) w' q s p := by
 refine (h.dS (Y := XN X w.heap.size) (fun b hb hx => ?_)).below hb
 rcases hx with hx | hx
 ·exact hx
 omega
theorem iE.cU {Y : Nat → Prop} (h : iE X w q s p) (hX : ∀ b, Y b → X b) : iE Y w q s p := h.dS (fun b _ => hX b)
theorem Fc (h : aO s f ≠ 0) : ay s f = (aZ s f, f, aO s f) := by unfold ay; rw [iP h]
theorem CZ (h : aO s f = 0) : ay s f = ja 10 (aZ s f) f := by unfold ay; rw [iN (by rw [h]; decide)]
theorem GK (args : Array Value) (w : World) : (callFunc 83 args).run prog w = .ok (.enter 83 args) w := by
 go_simp
theorem O9 (args : Array Value) (w : World) : (callFunc 84 args).run prog w = .ok (.enter 84 args) w := by
 go_simp
theorem NY (s : St) (f : Fl) : (aI s f).2.1.pg = f.pg := (gn s f).p
theorem Fa (h : iE X w q s g.pg) (hR : ca X w x g) (ho : bC g s) (hX : ∀ b, X b → b < w.heap.size) (nt : s.af = g.aF) (mZ : s.bt = false → fU (s.seq + 1) s.aj.length = 0) (he : aO s g ≠ 0) :
 Calls prog 34 #[q.v s, x.v g] w fun e w' => ∃ (q' : Qv) (y : Rc), e = .returned (.tuple #[q'.v (ay s g).1, y.v (ay s g).2.1, .int .i64 (ay s g).2.2]) ∧ iE X w' q' (ay s g).1 g.pg ∧ ca X w' y (ay s g).2.1 ∧ bW w w' := by
 rw [Fc he]
 obtain ⟨W, hW⟩ := ex ((((w.alloc (.cells (aS q s) 43)).alloc (.cells (aX x g) 35)).alloc (.cells qB 43)).alloc (.cells Bi 35))
 have HY := iD (Hy.new hW.symm ⟨_, rfl, rfl⟩ ⟨_, rfl, rfl⟩)
 have hsz := HY.lt
 have DP := iD (Ax (h.xn hX HY.below) (hR.xn HY.below) ho (XN.lt hX hsz) nt mZ)
 obtain ⟨⟨s1, k1⟩, dC⟩ := ex (aZ s g, aO s g)
 have JS : aZ s g = s1 := congrArg Prod.fst dC
 have LA : aO s g = k1 := congrArg Prod.snd dC
 clear dC
 rw [JS, LA] at DP
 rw [JS, LA]
 rw [LA] at he
 have hk : (k1 != 0) = true := by simpa using he
 have gg := iD HY.below
 have FB := iD hR
 have MI := iD hX
 unfold Qv.v Rc.v
 clear h hR ho hX nt mZ JS LA he hsz
 go_enter func34, ntmps34
 go_upto_region 1 with (fail)
 try rw [hW]
 clear hW
 refine wp_region_list ?_
 refine wpList_load_row rfl 43 _ rfl w.heap.size rfl 43 (aS q s) (0, 0) _ HY.h underlying43 rfl aP ?_
 refine wpList_load_row rfl 35 _ rfl (w.heap.size + 1) rfl 35 (aX x g) (0, 0) _ HY.h4 underlying35 rfl dK ?_
 simp only [nm]
 refine jZ (n := 83) (al := [.agg (aS q s), .agg (aX x g)]) rfl _ _ rfl (by rfl) GK ?_
 refine DP.mono ?_
 rintro e w1 ⟨q1, rfl, iG, dC⟩
 refine ⟨_, rfl, ?_⟩
 simp only [nm]
 have UT := iD (HY.ab dC)
 have uW := iD iG
 have Dl := iD (FB.xn (gg.trans (dC.mono gg.size)))
 clear iG dC
 refine wV (.tuple #[.agg (aS q1 s1), .int .i64 k1]) ?_
 refine wV (.agg (aS q1 s1)) ?_
 refine wV (.int .i64 k1) ?_
 refine wpList_store_row rfl 43 _ _ rfl w.heap.size (aS q1 s1) rfl rfl 43 (aS q s) UT.h aP rfl (ix ..) ?_
 have Nv := iD (UT.put (aS q1 s1))
 have xW := iD (uW.ao (ah.row w1 w.heap.size (aS q1 s1) (vd _ _)))
 have uf := iD (Dl.ao (ah.row w1 w.heap.size (aS q1 s1) (vd X w.heap.size)))
 generalize w1.setRow w.heap.size (aS q1 s1) = W2 at Nv xW uf ⊢
 go_upto_region 3 with (fail)
 have jg := iD ((Nv).ab fY)
 obtain ⟨ia, iH, jV⟩ := jg.h8
 obtain ⟨KV, kU, Nq⟩ := jg.h9
 refine wp_region_held (S := fun w' => w'.heap[w.heap.size]? = some (.cells (aS q1 s1) 43 (0, 0)) ∧ w'.heap[w.heap.size + 1]? = some (.cells (aX x g) 35 (0, 0))) (by kernel_rfl) ?_
 refine wpAnyH_take (i := 0) (v := .agg (aS q1 s1)) rfl (by kernel_rfl) (by kernel_rfl) (by kernel_rfl) (fun _ _ _ h => h) ?_ ⟨jg.h, jg.h4⟩ ?_
 ·refine bE ?_ 43 _ rfl w.heap.size rfl 43 _ (0, 0) _ (fun _ h => h.1) underlying43 rfl aP
  rfl
 change wpAnyH _ _ _ _ _ _ _ (Act.put _ (some 17) _) _
 simp only [nm]
 refine wpAnyH_take (i := 1) (v := .agg (aX x g)) rfl (by kernel_rfl) (by kernel_rfl) (by kernel_rfl) (fun _ _ _ h => h) ?_ ⟨jg.h, jg.h4⟩ ?_
 ·refine bE ?_ 35 _ rfl (w.heap.size + 1) rfl 35 _ (0, 0) _ (fun _ h => h.2) underlying35 rfl dK
  rfl
 change wpAnyH _ _ _ _ _ _ _ (Act.put _ (some 18) _) _
 simp only [nm]
 refine wpAnyH_take (i := 2) (v := .int .i64 k1) rfl (by kernel_rfl) (by kernel_rfl) (by kernel_rfl) (fun _ _ _ h => h) ?_ ⟨jg.h, jg.h4⟩ ?_
 ·refine lN (x := .tmp 7) ?_ rfl
  rfl
 change wpAnyH _ _ _ _ _ _ _ (Act.put _ (some 19) _) _
 simp only [nm]
 refine cQ (i := 3) (by kernel_rfl) rfl (by rfl) rfl 43 _ _ rfl (w.heap.size + 2) (aS q1 s1) ia rfl rfl 43 jV aP iH (ix ..) ⟨(setRow_other _ _ _ _ oM).trans jg.h, (setRow_other _ _ _ _ oM).trans jg.h4⟩ ?_
 refine cQ (i := 4) (by kernel_rfl) rfl (by rfl) rfl 35 _ _ rfl (w.heap.size + 3) (aX x g) KV rfl rfl 35 ((setRow_other _ _ _ _ oM).trans Nq) dK kU (Cb ..) ⟨(setRow_other _ _ _ _ oM).trans ((setRow_other _ _ _ _ oM).trans jg.h), (setRow_other _ _ _ _ oM).trans ((setRow_other _ _ _ _ oM).trans jg.h4)⟩ ?_
 refine wpAnyH_take (i := 5) (v := .int .i64 k1) rfl (by kernel_rfl) (by kernel_rfl) (by kernel_rfl) (fun _ _ _ h => h) ?_ ⟨(setRow_other _ _ _ _ oM).trans ((setRow_other _ _ _ _ oM).trans jg.h), (setRow_other _ _ _ _ oM).trans ((setRow_other _ _ _ _ oM).trans jg.h4)⟩ ?_
 ·refine jK (x := .tmp 19) ?_ rfl
  rfl
 change wpAnyH _ _ _ _ _ _ _ (Act.put _ (some 6) _) _
 simp only [nm]
 refine wD ?_
 go_wp2
 (try simp only [Exit.inBlock, Exit.then])
 refine bodyPost_ret (v := .tuple #[.agg (aS q1 s1), .agg (aX x g), .int .i64 k1]) (lQ (p := 4) (p' := 5) (u := 6) rfl _ _ (w.heap.size + 2) (w.heap.size + 3) 43 35 (aS q1 s1) (aX x g) _ _ rfl rfl ((setRow_other _ _ _ _ oM).trans (setRow_heap _ _ _ _ _ _ jV)) (setRow_heap _ _ _ _ _ _ ((setRow_other _ _ _ _ oM).trans Nq)) underlying43 rfl aP underlying35 rfl dK) rfl ⟨q1, x, rfl, (xW.ao (((ah.ak fY).trans (ah.row _ _ _ (RF _ _))).trans (ah.row _ _ _ (RE _ _)))).cU (fun _ => .inl), (uf.ao (((ah.ak fY).trans (ah.row _ _ _ (RF _ _))).trans (ah.row _ _ _ (RE _ _)))).Od, below_setRow (below_setRow jg.below oM _) oM _⟩
theorem Fb (h : iE X w q s g.pg) (hR : ca X w x g) (ho : bC g s) (hX : ∀ b, X b → b < w.heap.size) (nt : s.af = g.aF) (mZ : s.bt = false → fU (s.seq + 1) s.aj.length = 0) (he : aO s g = 0) :
 Calls prog 34 #[q.v s, x.v g] w fun e w' => ∃ (q' : Qv) (y : Rc), e = .returned (.tuple #[q'.v (ay s g).1, y.v (ay s g).2.1, .int .i64 (ay s g).2.2]) ∧ iE X w' q' (ay s g).1 g.pg ∧ ca X w' y (ay s g).2.1 ∧ bW w w' := by
 have nP := CZ he
 obtain ⟨NL, VJ⟩ := ex (ay s g)
 rw [VJ] at nP ⊢
 have jF := gI he
 have cB := qz ho he
 have Sz := my (f := g) ho
 have SU : (aZ s g).af = false := by
  obtain ⟨a, b, _⟩ := jD he
  unfold aZ
  rw [iP he]
  have e : (bj (fX s g) g).af = (fX s g).af := (iq (fX s g) g).2.2.2.2.2.2.2.2
  show (bj (fX s g) g).af = false
  rw [e]
  unfold fX
  rw [a, b]
  rfl
 obtain ⟨W, hW⟩ := ex ((((w.alloc (.cells (aS q s) 43)).alloc (.cells (aX x g) 35)).alloc (.cells qB 43)).alloc (.cells Bi 35))
 have HY := iD (Hy.new hW.symm ⟨_, rfl, rfl⟩ ⟨_, rfl, rfl⟩)
 have hsz := HY.lt
 have DP := iD (Ax (h.xn hX HY.below) (hR.xn HY.below) ho (XN.lt hX hsz) nt mZ)
 obtain ⟨⟨s1, k1⟩, dC⟩ := ex (aZ s g, aO s g)
 have JS : aZ s g = s1 := congrArg Prod.fst dC
 have LA : aO s g = k1 := congrArg Prod.snd dC
 clear dC
 rw [JS, LA] at DP
 rw [JS] at nP jF cB Sz SU
 rw [LA] at he
 subst he
 have gg := iD HY.below
 have FB := iD hR
 have MI := iD hX
 have py := iD nP
 have HBF := iD jF.1
 have HLB := iD cB
 have XZ := iD Sz
 have Ys := iD SU
 unfold Qv.v Rc.v
 clear h hR ho hX nt mZ JS LA hsz nP jF cB Sz SU VJ
 go_enter func34, ntmps34
 go_upto_region 1 with (fail)
 try rw [hW]
 clear hW
 refine wp_region_list ?_
 refine wpList_load_row rfl 43 _ rfl w.heap.size rfl 43 (aS q s) (0, 0) _ HY.h underlying43 rfl aP ?_
 refine wpList_load_row rfl 35 _ rfl (w.heap.size + 1) rfl 35 (aX x g) (0, 0) _ HY.h4 underlying35 rfl dK ?_
 simp only [nm]
 refine jZ (n := 83) (al := [.agg (aS q s), .agg (aX x g)]) rfl _ _ rfl (by rfl) GK ?_
 refine DP.mono ?_
 rintro e w1 ⟨q1, rfl, iG, dC⟩
 refine ⟨_, rfl, ?_⟩
 simp only [nm]
 have UT := iD (HY.ab dC)
 have uW := iD iG
 have Dl := iD (FB.xn (gg.trans (dC.mono gg.size)))
 clear iG dC
 refine wV (.tuple #[.agg (aS q1 s1), .int .i64 0]) ?_
 refine wV (.agg (aS q1 s1)) ?_
 refine wV (.int .i64 0) ?_
 refine wpList_store_row rfl 43 _ _ rfl w.heap.size (aS q1 s1) rfl rfl 43 (aS q s) UT.h aP rfl (ix ..) ?_
 have Nv := iD (UT.put (aS q1 s1))
 have xW := iD (uW.ao (ah.row w1 w.heap.size (aS q1 s1) (vd _ _)))
 have uf := iD (Dl.ao (ah.row w1 w.heap.size (aS q1 s1) (vd X w.heap.size)))
 generalize w1.setRow w.heap.size (aS q1 s1) = W2 at Nv xW uf ⊢
 have HC : Hid (Yz X w W2 NL 10 q1 s1 x g g.pg) := ⟨Nv, xW, uf, XZ, Ys, HBF, HLB, py, rfl⟩
 clear UT uW Dl Nv xW uf XZ Ys HBF HLB py
 obtain ⟨p, hp⟩ := ex g.pg
 rw [hp] at HC
 go_upto_region 4 with (fail)
 go_loopw [7, 8] (fun _ _ wr => ∃ n q' s' y' f', Yz X w wr NL n q' s' y' f' p) (fun _ _ wr => La w.heap.size wr)
 case atStart => exact ⟨_, _, _, _, _, HC⟩
 case round =>
  obtain ⟨n, q2, s2, y2, f2, hC⟩ := hrel
  have ug := iD hC
  have HLF := iD hC.lf
  have hn : 1 ≤ n := Nat.le_trans (qU hC.ok hC.b hC.u) hC.left
  obtain ⟨m, rfl⟩ : ∃ m, n = m + 1 := ⟨n - 1, oM⟩
  have eX := iD (Ko (by rw [hC.pg]; exact hC.rv) hC.rf hC.ok (XN.lt MI hC.hy.lt))
  rw [hC.pg] at eX
  have py := iD hC.run
  rw [fq] at py
  have J4 := iD (sI hC.ok hC.b hC.u)
  have gX := iD (mc hC.ok)
  have jh : Hid ((aI s2 f2).2.1.pg = p) := (NY s2 f2).trans hC.pg
  have HMB : Hid (iU s2 ≤ m + 1) := hC.left
  obtain ⟨r, hr⟩ := ex (aI s2 f2)
  rw [hr] at eX py J4 gX jh
  obtain ⟨s3, f3, rd, re⟩ := r
  have mD := iD hr
  simp only at eX py J4 gX jh
  clear hr hC hn
  go_upto_region 5 with (fail)
  refine wp_region_list ?_
  refine wpList_load_row rfl 43 _ rfl w.heap.size rfl 43 (aS q2 s2) (0, 0) _ ug.hy.h underlying43 rfl aP ?_
  refine wpList_load_row rfl 35 _ rfl (w.heap.size + 1) rfl 35 (aX y2 f2) (0, 0) _ ug.hy.h4 underlying35 rfl dK ?_
  simp only [nm]
  refine jZ (n := 84) (al := [.agg (aS q2 s2), .agg (aX y2 f2)]) rfl _ _ rfl (by rfl) O9 ?_
  refine eX.mono ?_
  rintro e w9 ⟨q3, y3, rfl, Qu, hf9, oL⟩
  refine ⟨_, rfl, ?_⟩
  simp only [nm]
  have iK := iD (ug.hy.ab oL)
  have jY := iD Qu
  have G2 := iD hf9
  clear Qu hf9 oL
  refine wV (.tuple #[.agg (aS q3 s3), .agg (aX y3 f3), .bool rd, .int .i64 re]) ?_
  refine wV (.agg (aS q3 s3)) ?_
  refine wV (.agg (aX y3 f3)) ?_
  refine wV (.bool rd) ?_
  refine wV (.int .i64 re) ?_
  refine wpList_store_row rfl 43 _ _ rfl w.heap.size (aS q3 s3) rfl rfl 43 (aS q2 s2) iK.h aP rfl (ix ..) ?_
  refine wpList_store_row rfl 35 _ _ rfl (w.heap.size + 1) (aX y3 f3) rfl rfl 35 (aX y2 f2) ((setRow_other _ _ _ _ oM).trans iK.h4) dK rfl (Cb ..) ?_
  have Zh := iD ((iK.put (aS q3 s3)).Ef (aX y3 f3))
  have Zl := iD (jY.ao ((ah.row w9 w.heap.size (aS q3 s3) (vd _ _)).trans (ah.row _ (w.heap.size + 1) (aX y3 f3) (RG _ _))))
  have U6 := iD (G2.ao ((ah.row w9 w.heap.size (aS q3 s3) (vd _ _)).trans (ah.row _ (w.heap.size + 1) (aX y3 f3) (RG _ _))))
  generalize (w9.setRow w.heap.size (aS q3 s3)).setRow (w.heap.size + 1) (aX y3 f3) = WA at Zh Zl U6 ⊢
  clear iK jY G2
  by_cases qo : rd = true
  ·subst qo
   have FA : Hid (NL = (s3, f3, re)) := by rw [Hid, py, iP (.inl rfl)]
   go_upto_region 7 with (fail)
   have jg := iD ((Zh).ab fY)
   obtain ⟨ia, iH, jV⟩ := jg.h8
   obtain ⟨KV, kU, Nq⟩ := jg.h9
   refine wp_region_held (S := fun w' => w'.heap[w.heap.size]? = some (.cells (aS q3 s3) 43 (0, 0)) ∧ w'.heap[w.heap.size + 1]? = some (.cells (aX y3 f3) 35 (0, 0))) (by kernel_rfl) ?_
   refine wpAnyH_take (i := 0) (v := .agg (aS q3 s3)) rfl (by kernel_rfl) (by kernel_rfl) (by kernel_rfl) (fun _ _ _ h => h) ?_ ⟨jg.h, jg.h4⟩ ?_
   ·refine bE ?_ 43 _ rfl w.heap.size rfl 43 _ (0, 0) _ (fun _ h => h.1) underlying43 rfl aP
    rfl
   change wpAnyH _ _ _ _ _ _ _ (Act.put _ (some 33) _) _
   simp only [nm]
   refine wpAnyH_take (i := 1) (v := .agg (aX y3 f3)) rfl (by kernel_rfl) (by kernel_rfl) (by kernel_rfl) (fun _ _ _ h => h) ?_ ⟨jg.h, jg.h4⟩ ?_
   ·refine bE ?_ 35 _ rfl (w.heap.size + 1) rfl 35 _ (0, 0) _ (fun _ h => h.2) underlying35 rfl dK
    rfl
   change wpAnyH _ _ _ _ _ _ _ (Act.put _ (some 34) _) _
   simp only [nm]
   refine wpAnyH_take (i := 2) (v := .int .i64 re) rfl (by kernel_rfl) (by kernel_rfl) (by kernel_rfl) (fun _ _ _ h => h) ?_ ⟨jg.h, jg.h4⟩ ?_
   ·refine lN (x := .tmp 7) ?_ rfl
    rfl
   change wpAnyH _ _ _ _ _ _ _ (Act.put _ (some 35) _) _
   simp only [nm]
   refine cQ (i := 3) (by kernel_rfl) rfl (by rfl) rfl 43 _ _ rfl (w.heap.size + 2) (aS q3 s3) ia rfl rfl 43 jV aP iH (ix ..) ⟨(setRow_other _ _ _ _ oM).trans jg.h, (setRow_other _ _ _ _ oM).trans jg.h4⟩ ?_
   refine cQ (i := 4) (by kernel_rfl) rfl (by rfl) rfl 35 _ _ rfl (w.heap.size + 3) (aX y3 f3) KV rfl rfl 35 ((setRow_other _ _ _ _ oM).trans Nq) dK kU (Cb ..) ⟨(setRow_other _ _ _ _ oM).trans ((setRow_other _ _ _ _ oM).trans jg.h), (setRow_other _ _ _ _ oM).trans ((setRow_other _ _ _ _ oM).trans jg.h4)⟩ ?_
   refine wpAnyH_take (i := 5) (v := .int .i64 re) rfl (by kernel_rfl) (by kernel_rfl) (by kernel_rfl) (fun _ _ _ h => h) ?_ ⟨(setRow_other _ _ _ _ oM).trans ((setRow_other _ _ _ _ oM).trans jg.h), (setRow_other _ _ _ _ oM).trans ((setRow_other _ _ _ _ oM).trans jg.h4)⟩ ?_
   ·refine jK (x := .tmp 35) ?_ rfl
    rfl
   change wpAnyH _ _ _ _ _ _ _ (Act.put _ (some 6) _) _
   simp only [nm]
   refine wD ?_
   go_wp2
   (try simp only [Exit.inBlock, Exit.then])
   refine bodyPost_ret (v := .tuple #[.agg (aS q3 s3), .agg (aX y3 f3), .int .i64 re]) (lQ (p := 4) (p' := 5) (u := 6) rfl _ _ (w.heap.size + 2) (w.heap.size + 3) 43 35 (aS q3 s3) (aX y3 f3) _ _ rfl rfl ((setRow_other _ _ _ _ oM).trans (setRow_heap _ _ _ _ _ _ jV)) (setRow_heap _ _ _ _ _ _ ((setRow_other _ _ _ _ oM).trans Nq)) underlying43 rfl aP underlying35 rfl dK) rfl ⟨q3, y3, by rw [FA], by rw [FA]; exact (Zl.ao (((ah.ak fY).trans (ah.row _ _ _ (RF _ _))).trans (ah.row _ _ _ (RE _ _)))).cU (fun _ => .inl), by rw [FA]; exact (U6.ao (((ah.ak fY).trans (ah.row _ _ _ (RF _ _))).trans (ah.row _ _ _ (RE _ _)))).Od, below_setRow (below_setRow jg.below oM _) oM _⟩
  have hdn' : rd = false := by simpa using qo
  subst hdn'
  by_cases Nh : re = 0
  ·subst Nh
   have yc := iD (J4 rfl rfl)
   have RA : Hid (Yz X w WA NL m q3 s3 y3 f3 p) := ⟨Zh.out, Zl.out, U6.out, gX.out, yc.out.2.2, yc.out.2.1, by have := yc.out.1; have := HMB.out; omega, by rw [py.out, iN (by simp)], jh.out⟩
   have FL := iD RA.lf
   go_wp2
   go_roundw
   case rel => exact ⟨_, _, _, _, _, RA⟩
   case measure =>
    rw [FL, HLF]
    have := yc.out.1
    have h1 := qU ug.ok ug.b ug.u
    omega
  have FA : Hid (NL = (s3, f3, re)) := by rw [Hid, py, iP (.inr Nh)]
  have abX : (re != 0) = true := by simpa using Nh
  clear Nh
  go_upto_region 7 with (fail)
  have jg := iD ((Zh).ab fY)
  obtain ⟨ia, iH, jV⟩ := jg.h8
  obtain ⟨KV, kU, Nq⟩ := jg.h9
  refine wp_region_held (S := fun w' => w'.heap[w.heap.size]? = some (.cells (aS q3 s3) 43 (0, 0)) ∧ w'.heap[w.heap.size + 1]? = some (.cells (aX y3 f3) 35 (0, 0))) (by kernel_rfl) ?_
  refine wpAnyH_take (i := 0) (v := .agg (aS q3 s3)) rfl (by kernel_rfl) (by kernel_rfl) (by kernel_rfl) (fun _ _ _ h => h) ?_ ⟨jg.h, jg.h4⟩ ?_
  ·refine bE ?_ 43 _ rfl w.heap.size rfl 43 _ (0, 0) _ (fun _ h => h.1) underlying43 rfl aP
   rfl
  change wpAnyH _ _ _ _ _ _ _ (Act.put _ (some 33) _) _
  simp only [nm]
  refine wpAnyH_take (i := 1) (v := .agg (aX y3 f3)) rfl (by kernel_rfl) (by kernel_rfl) (by kernel_rfl) (fun _ _ _ h => h) ?_ ⟨jg.h, jg.h4⟩ ?_
  ·refine bE ?_ 35 _ rfl (w.heap.size + 1) rfl 35 _ (0, 0) _ (fun _ h => h.2) underlying35 rfl dK
   rfl
  change wpAnyH _ _ _ _ _ _ _ (Act.put _ (some 34) _) _
  simp only [nm]
  refine wpAnyH_take (i := 2) (v := .int .i64 re) rfl (by kernel_rfl) (by kernel_rfl) (by kernel_rfl) (fun _ _ _ h => h) ?_ ⟨jg.h, jg.h4⟩ ?_
  ·refine lN (x := .tmp 7) ?_ rfl
   rfl
  change wpAnyH _ _ _ _ _ _ _ (Act.put _ (some 35) _) _
  simp only [nm]
  refine cQ (i := 3) (by kernel_rfl) rfl (by rfl) rfl 43 _ _ rfl (w.heap.size + 2) (aS q3 s3) ia rfl rfl 43 jV aP iH (ix ..) ⟨(setRow_other _ _ _ _ oM).trans jg.h, (setRow_other _ _ _ _ oM).trans jg.h4⟩ ?_
  refine cQ (i := 4) (by kernel_rfl) rfl (by rfl) rfl 35 _ _ rfl (w.heap.size + 3) (aX y3 f3) KV rfl rfl 35 ((setRow_other _ _ _ _ oM).trans Nq) dK kU (Cb ..) ⟨(setRow_other _ _ _ _ oM).trans ((setRow_other _ _ _ _ oM).trans jg.h), (setRow_other _ _ _ _ oM).trans ((setRow_other _ _ _ _ oM).trans jg.h4)⟩ ?_
  refine wpAnyH_take (i := 5) (v := .int .i64 re) rfl (by kernel_rfl) (by kernel_rfl) (by kernel_rfl) (fun _ _ _ h => h) ?_ ⟨(setRow_other _ _ _ _ oM).trans ((setRow_other _ _ _ _ oM).trans jg.h), (setRow_other _ _ _ _ oM).trans ((setRow_other _ _ _ _ oM).trans jg.h4)⟩ ?_
  ·refine jK (x := .tmp 35) ?_ rfl
   rfl
  change wpAnyH _ _ _ _ _ _ _ (Act.put _ (some 6) _) _
  simp only [nm]
  refine wD ?_
  go_wp2
  (try simp only [Exit.inBlock, Exit.then])
  refine bodyPost_ret (v := .tuple #[.agg (aS q3 s3), .agg (aX y3 f3), .int .i64 re]) (lQ (p := 4) (p' := 5) (u := 6) rfl _ _ (w.heap.size + 2) (w.heap.size + 3) 43 35 (aS q3 s3) (aX y3 f3) _ _ rfl rfl ((setRow_other _ _ _ _ oM).trans (setRow_heap _ _ _ _ _ _ jV)) (setRow_heap _ _ _ _ _ _ ((setRow_other _ _ _ _ oM).trans Nq)) underlying43 rfl aP underlying35 rfl dK) rfl ⟨q3, y3, by rw [FA], by rw [FA]; exact (Zl.ao (((ah.ak fY).trans (ah.row _ _ _ (RF _ _))).trans (ah.row _ _ _ (RE _ _)))).cU (fun _ => .inl), by rw [FA]; exact (U6.ao (((ah.ak fY).trans (ah.row _ _ _ (RF _ _))).trans (ah.row _ _ _ (RE _ _)))).Od, below_setRow (below_setRow jg.below oM _) oM _⟩
theorem CX (h : iE X w q s g.pg) (hR : ca X w x g) (ho : bC g s) (hX : ∀ b, X b → b < w.heap.size) (nt : s.af = g.aF) (mZ : s.bt = false → fU (s.seq + 1) s.aj.length = 0) :
 Calls prog 34 #[q.v s, x.v g] w fun e w' => ∃ (q' : Qv) (y : Rc), e = .returned (.tuple #[q'.v (ay s g).1, y.v (ay s g).2.1, .int .i64 (ay s g).2.2]) ∧ iE X w' q' (ay s g).1 g.pg ∧ ca X w' y (ay s g).2.1 ∧ bW w w' := by
 by_cases he : aO s g = 0
 ·exact Fb h hR ho hX nt mZ he
 exact Fa h hR ho hX nt mZ he
theorem za (h : f.up) {B : Nat} (hB : B < f.ar.length) : (aR f (B : Int)).2 = 0 ∧ (aR f (B : Int)).1.up ∧ (aR f (B : Int)).1.pg = f.pg ∧ (aR f (B : Int)).1.ar.length = f.ar.length ∧
 (aR f (B : Int)).1.az = f.az ∧ ∀ x, aB (aR f (B : Int)).1 x = if B * f.pg ≤ x ∧ x < B * f.pg + f.pg then cL else aB f x := by
 have hp := n7 h.ok h.dn hB
 have hk := kn (f := f) (block := (B : Int)) h.ok
 have key : (aR f (B : Int)).2 = 0 ∧ (aR f (B : Int)).1.be = -1 ∧ (aR f (B : Int)).1.az = f.az := by
  unfold aR
  rw [iN (by rw [h.dn]; decide), iN oM, oT h.fu, iN (by simp)]
  exact ⟨rfl, h.fu, rfl⟩
 rcases hp.ok with ⟨c1, c2, c3⟩ | ⟨c1, _, _⟩
 ·exact ⟨c1, ⟨hk, c2, key.2.1⟩, hp.pg, by rw [hp.ar, dA], key.2.2, c3⟩
 rw [key.1] at c1; cases c1
theorem BS (h : f.up) {P : Nat} (hP : P < f.ar.length * f.pg) (hl : b.length = 64) (hb : Bytes b) (cB : aB f P = cL) : (bz f (P : Int) b).2 = 0 ∧ (bz f (P : Int) b).1.up ∧ (bz f (P : Int) b).1.pg = f.pg ∧
 (bz f (P : Int) b).1.ar.length = f.ar.length ∧ (bz f (P : Int) b).1.az = f.az ∧ ∀ x, aB (bz f (P : Int) b).1 x = if x = P then b else aB f x := by
 have hp := pZ h.ok h.dn hP hl cB
 have hk := nL (f := f) (page := (P : Int)) h.ok hb
 have sQ : ch (aB f P) = true := (iY (by rw [cB, qx])).2 cB
 have h0 : lY f (P : Int) = 0 := by unfold lY; rw [h.dn, iN (by decide), iN oM]
 have key : (bz f (P : Int) b).2 = 0 ∧ (bz f (P : Int) b).1.be = -1 ∧ (bz f (P : Int) b).1.az = f.az := by
  unfold bz
  rw [iN (by rw [h0]; decide), iN oM, Int.toNat_natCast, iN (by rw [sQ]; decide), oT h.fu, iN (by simp)]
  exact ⟨rfl, h.fu, rfl⟩
 rcases hp.ok with ⟨c1, c2, c3⟩ | ⟨c1, _, _⟩
 ·exact ⟨c1, ⟨hk, c2, key.2.1⟩, hp.pg, by rw [hp.ar], key.2.2, c3⟩
 rw [key.1] at c1; cases c1
def eh (f : Fl) (a : Nat) : Nat → Fl
 | 0 => f
 | n + 1 => (aR (eh f a n) ((a + n : Nat) : Int)).1
structure abG (f g : Fl) (a n : Nat) : Prop where
 up : g.up
 pg : g.pg = f.pg
 wl : g.ar.length = f.ar.length
 pk : g.az = f.az
 page : ∀ x, aB g x = if a * f.pg ≤ x ∧ x < (a + n) * f.pg then cL else aB f x
theorem mw {f : Fl} (h : f.up) {a : Nat} : ∀ {n : Nat}, a + n ≤ f.ar.length → abG f (eh f a n) a n
 | 0, _ => ⟨h, rfl, rfl, rfl, fun x => by rw [iN (by rw [Nat.add_zero]; omega)]; rfl⟩
 | n + 1, hn => by
  have ih := mw h (a := a) (n := n) oM
  obtain ⟨e0, e1, e2, e3, e4, e5⟩ := za ih.up (B := a + n) (by rw [ih.wl]; omega)
  refine ⟨e1, e2.trans ih.pg, e3.trans ih.wl, e4.trans ih.pk, fun x => ?_⟩
  show aB (aR (eh f a n) ((a + n : Nat) : Int)).1 x = _
  rw [e5, ih.page, ih.pg]
  have e : (a + (n + 1)) * f.pg = (a + n) * f.pg + f.pg := by rw [← Nat.add_assoc, Nat.add_mul (a + n), Nat.one_mul]
  have e' : a * f.pg ≤ (a + n) * f.pg := Nat.mul_le_mul_right _ oM
  rw [e]
  by_cases hx : (a + n) * f.pg ≤ x ∧ x < (a + n) * f.pg + f.pg
  ·rw [iP hx, iP oM]
  rw [iN hx]
  by_cases hy : a * f.pg ≤ x ∧ x < (a + n) * f.pg
  ·rw [iP hy, iP oM]
  rw [iN hy, iN oM]
theorem tY (h : f.up) (hn : a + n ≤ f.ar.length) (hm : m < n) : (aR (eh f a m) ((a + m : Nat) : Int)).2 = 0 := by
 have ih := mw h (a := a) (n := m) oM
 exact (za ih.up (B := a + m) (by rw [ih.wl]; omega)).1
def gd (b : List Int) : List Int := b ++ List.replicate (64 - b.length) 255
def eQ (img : List Int) (k : Nat) : List Int := (img.drop (64 * k)).take 64
def ew (n : Nat) : Nat := (n + 63) / 64
theorem eR (h : b.length ≤ 64) : (gd b).length = 64 := by unfold gd; rw [List.length_append, List.length_replicate]; omega
theorem kt (h : Bytes b) : Bytes (gd b) := by
 intro x hx
 unfold gd at hx
 rcases List.mem_append.1 hx with hx | hx
 ·exact h x hx
 rw [List.mem_replicate] at hx
 omega
theorem ju (img : List Int) (k : Nat) : (eQ img k).length = min 64 (img.length - 64 * k) := by unfold eQ; rw [List.length_take, List.length_drop]
theorem kh (h : Bytes img) (k : Nat) : Bytes (eQ img k) := fun x hx => h x (List.mem_of_mem_drop (List.mem_of_mem_take hx))
def iS (f : Fl) (a : Nat) (img : List Int) : Nat → Fl
 | 0 => f
 | n + 1 => (bz (iS f a img n) ((a + n : Nat) : Int) (gd (eQ img n))).1
structure Xp (f g : Fl) (a : Nat) (img : List Int) (n : Nat) : Prop where
 up : g.up
 pg : g.pg = f.pg
 wl : g.ar.length = f.ar.length
 pk : g.az = f.az
 page : ∀ x, aB g x = if a ≤ x ∧ x < a + n then gd (eQ img (x - a)) else aB f x
theorem qP {f : Fl} (h : f.up) {a : Nat} {img : List Int} (hi : Bytes img) : ∀ {n : Nat}, a + n ≤ f.ar.length * f.pg → (∀ x, a ≤ x → x < a + n → aB f x = cL) → Xp f (iS f a img n) a img n
 | 0, _, _ => ⟨h, rfl, rfl, rfl, fun x => by rw [iN oM]; rfl⟩
 | n + 1, hn, hb => by
  have ih := qP h hi (a := a) (n := n) oM (fun x h1 h2 => hb x h1 oM)
  have cB : aB (iS f a img n) (a + n) = cL := by rw [ih.page, iN oM]; exact hb _ oM oM
  obtain ⟨e0, e1, e2, e3, e4, e5⟩ := BS ih.up (P := a + n) (by rw [ih.wl, ih.pg]; omega) (eR (by rw [ju]; omega)) (kt (kh hi n)) cB
  refine ⟨e1, e2.trans ih.pg, e3.trans ih.wl, e4.trans ih.pk, fun x => ?_⟩
  show aB (bz (iS f a img n) ((a + n : Nat) : Int) (gd (eQ img n))).1 x = _
  rw [e5, ih.page]
  by_cases hx : x = a + n
  ·rw [iP hx, iP oM, hx, show a + n - a = n by omega]
  rw [iN hx]
  by_cases hy : a ≤ x ∧ x < a + n
  ·rw [iP hy, iP oM]
  rw [iN hy, iN oM]
theorem vF (h : f.up) (hi : Bytes img) (hn : a + n ≤ f.ar.length * f.pg) (hb : ∀ x, a ≤ x → x < a + n → aB f x = cL) (hm : m < n) : (bz (iS f a img m) ((a + m : Nat) : Int) (gd (eQ img m))).2 = 0 := by
 have ih := qP h hi (a := a) (n := m) oM (fun x h1 h2 => hb x h1 oM)
 have cB : aB (iS f a img m) (a + m) = cL := by rw [ih.page, iN oM]; exact hb _ oM oM
 exact (BS ih.up (P := a + m) (by rw [ih.wl, ih.pg]; omega) (eR (by rw [ju]; omega)) (kt (kh hi m)) cB).1
def aH (n : Nat) : List eB :=
 [⟨0, 1, 0⟩, ⟨0, 2, 2⟩, ⟨0, 3, 0⟩, ⟨0, 1073741824, 0⟩, ⟨0, n, 0⟩, ⟨0, 4294967295, 0⟩, ⟨0, 1073741824, 0⟩, ⟨0, n, 0⟩, ⟨0, 4294967295, 0⟩]
theorem iB (h : n ≤ 1000000) : ∀ p ∈ aH n, p.ok := by
 intro p hp
 simp only [aH, List.mem_cons, List.not_mem_nil, or_false] at hp
 rcases hp with rfl | rfl | rfl | rfl | rfl | rfl | rfl | rfl | rfl <;> exact ⟨by unfold dI; simp only; omega, by unfold dI; simp only; omega, by unfold dI; simp only; omega⟩
theorem ic (n : Nat) : (aH n).any fy = false := by
 simp only [aH, fy, List.any_cons, List.any_nil, Bool.or_false, Bool.or_eq_false_iff, decide_eq_false_iff_not]
 omega
def aM (f : Fl) (aa : Nat) : Nat := (aa - 2) / 2 * f.pg * 64
def eC (f : Fl) (first aa : Int) : Int :=
 if f.aF = true then 20 else if aa % 2 ≠ 0 ∨ aa < 4 ∨ 18 < aa then 3 else if first < 0 ∨ (f.ar.length : Int) - aa < first then 10 else if f.pg < 2 then 11 else 0
theorem ml {first : Int} (h : eC f first aa = 0) : f.aF = false ∧ ∃ a k : Nat, first = a ∧ aa = ((2 * k + 2 : Nat) : Int) ∧ 1 ≤ k ∧ k ≤ 8 ∧ a + (2 * k + 2) ≤ f.ar.length ∧ 2 ≤ f.pg := by
 unfold eC at h
 split at h
 ·cases h
 rename_i h1
 split at h
 ·cases h
 rename_i h2
 split at h
 ·cases h
 rename_i h3
 split at h
 ·cases h
 rename_i h4
 refine ⟨by simpa using h1, first.toNat, (aa.toNat - 2) / 2, oM, ?_, ?_, ?_, ?_, oM⟩ <;> omega
theorem mj {first : Int} (h : eC f first aa = 0) (n : Nat) : cI f first ((2 : Nat) : Int) (aH n) = 0 := by
 obtain ⟨hd, a, k, rfl, rfl, k1, k8, hw, hp⟩ := ml h
 unfold cI
 rw [iN (by rw [hd]; decide), iN oM, iN oM, iN (by simp [aH]), iN (by have := ic n; unfold fy at this; rw [this]; decide), iN (by simp only [aH, List.length_cons, List.length_nil, cN]; omega)]
def xS (f : Fl) (first n : Nat) (v m c : Int) : St := aU (aU (aU (aJ f first 2 (aH n)) 3 v) 4 m) 5 c
def eD (f : Fl) (first aa : Nat) (img : List Int) : Fl := iS (eh f first aa) ((first + 2) * f.pg) img (ew img.length)
def iJ (f : Fl) (first aa : Nat) (v c : Int) (img : List Int) : St × Fl × Int :=
 ay (xS (eD f first aa img) first (aM f aa) v img.length c) (eD f first aa img)
theorem eo.ER {fi bl : Nat} {sp : List eB} (hf : f.ok) (cB : ∀ x, fi * f.pg ≤ x → x < (fi + bl) * f.pg → aB f x = cL) (hs : ∀ p ∈ sp, p.ok) (he : cI f fi bl sp = 0) :
 eo f (aJ f fi bl sp) (sp.map eB.df) none ∧ dW f (aJ f fi bl sp) ∧ (aJ f fi bl sp).saved = sp.map eB.df ∧ (aJ f fi bl sp).aj = sp.map eB.df ∧ (aJ f fi bl sp).bt = false ∧ (aJ f fi bl sp).slot = -1 ∧ (aJ f fi bl sp).block = 0 ∧ (aJ f fi bl sp).aw = sp ∧ (aJ f fi bl sp).first = fi ∧ (aJ f fi bl sp).aa = bl ∧ (aJ f fi bl sp).seq = 0 ∧ (aJ f fi bl sp).af = false := by
 obtain ⟨hd, b2, Zf, f0, f1, n1, K0, fh, uS⟩ := jm he
 have dc := kv hs he
 obtain ⟨s0, fp⟩ := ex (dM fi bl sp)
 have LB : ∀ b j, b < s0.aa → j < bm s0 f → eV f s0 b j = none := by
  intro b j h1 h2
  have hk : s0.k = cN sp.length := by rw [← fp]; rfl
  have ux := j7 n1
  have hT : bm s0 f = f.pg / cN sp.length := by rw [← fp]; rfl
  have OQ : s0.aa = bl := by rw [← fp]; rfl
  rw [OQ] at h1
  rw [hT] at h2
  have h3 : (j + 1) * cN sp.length ≤ f.pg := by
   have := Nat.mul_le_mul_right (cN sp.length) (show j + 1 ≤ f.pg / cN sp.length by omega)
   exact Nat.le_trans this (Nat.div_mul_le_self _ _)
  rw [Nat.add_mul, Nat.one_mul] at h3
  have h4 : (fi + b + 1) * f.pg ≤ (fi + bl) * f.pg := Nat.mul_le_mul_right _ oM
  have h5 : fi * f.pg ≤ (fi + b) * f.pg := Nat.mul_le_mul_right _ oM
  rw [Nat.add_mul (fi + b), Nat.one_mul] at h4
  have hp : aG s0 f b j = (fi + b) * f.pg + j * cN sp.length := by unfold aG; rw [hk, ← fp]; rfl
  refine ks (i := 0) oM ?_
  rw [hp, cB _ oM oM]
  exact kT
 have hn : eZ f s0 none := LB
 have gH := kx (f := f) (s0 := s0) (by rw [← fp]; rfl) hn
 simp only at gH
 have ht : aJ f fi bl sp = { s0 with aj := s0.saved } := by
  unfold aJ
  rw [fp, show f.pg / cN sp.length = bm s0 f by rw [← fp]; rfl, show bl = s0.aa by rw [← fp]; rfl, gH]
 rw [ht] at dc ⊢
 have e1 : s0.slot = -1 := by rw [← fp]; rfl
 have e2 : s0.saved = sp.map eB.df := by rw [← fp]; rfl
 have e3 : s0.block = 0 := by rw [← fp]; rfl
 have e4 : s0.bt = false := by rw [← fp]; rfl
 have e5 : s0.af = false := by rw [← fp]; rfl
 have e6 : s0.first = fi := by rw [← fp]; rfl
 have e7 : s0.aa = bl := by rw [← fp]; rfl
 have e8 : s0.aw = sp := by rw [← fp]; rfl
 have e9 : s0.seq = 0 := by rw [← fp]; rfl
 have qq : fW { s0 with aj := s0.saved } = none := by unfold fW; rw [iP e1]
 have Cq : dW f { s0 with aj := s0.saved } := by
  refine ⟨hf, dc, hd, e5, fun x h1 h2 => ?_, ?_, fun _ => ⟨e9, e3, by simp only [e8]; exact e2⟩, by simp only [e8, e2]; exact tR fh, by simp only [e8, e2]; exact tR fh, fun e => by simp only [e4] at e; cases e⟩
  ·simp only [e6, e7] at h1 h2
   rw [cB x h1 h2]
   exact rH.blank
  rw [qq]
  exact hn.congr rfl rfl rfl (fun b j _ _ => dF rfl rfl rfl (fun _ _ => rfl))
 exact ⟨⟨e2, .inl ⟨Cq, by simp only [e4]; simp⟩⟩, Cq, e2, e2, e4, e1, e3, e8, e6, e7, e9, e5⟩
theorem Af (h : f.aF = false ∧ f.be = -1) (b : Int) : (aR f b).1.aF = false ∧ (aR f b).1.be = -1 := by
 unfold aR
 split
 ·exact h
 split
 ·exact h
 rw [oT h.2, iN (by simp)]
 exact h
theorem BU (h : f.aF = false ∧ f.be = -1) (p : Int) (b : List Int) : (bz f p b).1.aF = false ∧ (bz f p b).1.be = -1 := by
 unfold bz
 split
 ·exact h
 split
 ·exact h
 split
 ·exact h
 rw [oT h.2, iN (by simp)]
 exact h
theorem tB (h : f.aF = false ∧ f.be = -1) (s : St) : (aI s f).2.1.aF = false ∧ (aI s f).2.1.be = -1 := by
 have ho : (eW s f).1.aF = false ∧ (eW s f).1.be = -1 := by
  unfold eW
  split
  ·exact Af h _
  exact BU h _ _
 unfold aI
 split
 ·exact h
 split
 ·exact h
 split
 ·exact ho
 split
 ·exact ho
 exact ho
theorem vu : ∀ (n : Nat) {f : Fl} (s : St), f.aF = false ∧ f.be = -1 → (ja n s f).2.1.aF = false ∧ (ja n s f).2.1.be = -1
 | 0, f, s, h => h
 | n + 1, f, s, h => by
  rw [fq]
  split
  ·exact tB h s
  exact vu n _ (tB h s)
theorem xT (h : f.aF = false ∧ f.be = -1) (s : St) : (ay s f).2.1.aF = false ∧ (ay s f).2.1.be = -1 := by
 unfold ay
 split
 ·exact h
 exact vu _ _ h
theorem dW.I8 (h : dW f s) (hf : f.be = -1) (hb : s.bt = false) (hq : s.seq ≤ 1000000) (gB : s.aj ≠ s.saved) :
 (ay s f).2.2 = 0 ∧ eo (ay s f).2.1 (ay s f).1 s.aj none ∧ (ay s f).2.1.up := by
 have dX := xT ⟨h.up, hf⟩ s
 have he : aO s f = 0 := by
  unfold aO
  rw [h.br, h.up, iN (by decide), hb, iN (by decide), iN gB]
  have h1 := h.ok.q1
  have h2 := h.ok.tl
  have h3 := h.ok.n1
  have h4 := h.ok.n2
  unfold fU
  rw [iN oM]
 have hs : eo f s s.saved none := ⟨rfl, .inl ⟨h, by rw [hb]; rfl⟩⟩
 have hc : ay s f = ja 10 (aZ s f) f := by unfold ay; rw [iN (by rw [he]; decide)]
 obtain ⟨e1, e2, e3, e4, _⟩ := gI he
 have hr := h.begin.run e1 (qz h.ok he)
 rw [← hc] at hr
 cases hr with
 | last b1 b2 b3 b4 b5 => exact ⟨b1, ⟨b4.trans e2, .inl ⟨b2, by rw [b3]; rfl⟩⟩, ⟨b2.wu, dX.1, dX.2⟩⟩
 | dead b1 b2 b3 b4 => rw [b2.dn] at dX; cases dX.1
theorem mP (hb : s.af = false) (gT : s.aw = aH n) {p : eB} {v : Int} (hp : (aH n)[i]? = some p) (hv : p.lo ≤ v ∧ v ≤ p.hi) : ga s (i : Int) v = 0 ∧ aU s (i : Int) v = { s with aj := s.aj.set i v } := by
 have hi := (List.getElem?_eq_some_iff.1 hp).1
 have he : ga s (i : Int) v = 0 := by
  unfold ga
  rw [iN (by rw [hb]; decide), iN (by rw [gT]; omega), Int.toNat_natCast, gT, hp, iN]
  unfold iz
  simp only [Option.getD_some, decide_eq_false_iff_not, Classical.not_not]
  exact hv
 refine ⟨he, ?_⟩
 unfold aU
 rw [iP he, Int.toNat_natCast]
theorem ig (h : f.up) (hw : first + (2 * k + 2) ≤ f.ar.length) (hk : 1 ≤ k) (hi : Bytes img) (h2 : img.length ≤ aM f (2 * k + 2)) :
 (eD f first (2 * k + 2) img).up ∧ (eD f first (2 * k + 2) img).pg = f.pg ∧ (eD f first (2 * k + 2) img).ar.length = f.ar.length ∧ (eD f first (2 * k + 2) img).az = f.az ∧
 (∀ x, aB (eD f first (2 * k + 2) img) x = if (first + 2) * f.pg ≤ x ∧ x < (first + 2) * f.pg + ew img.length then gd (eQ img (x - (first + 2) * f.pg)) else if first * f.pg ≤ x ∧ x < (first + (2 * k + 2)) * f.pg then cL else aB f x) ∧
 (first + 2) * f.pg + ew img.length ≤ (first + (k + 2)) * f.pg ∧ (first + (k + 2)) * f.pg ≤ f.ar.length * f.pg ∧ ∀ x, (first + 2) * f.pg ≤ x → x < (first + 2) * f.pg + ew img.length → aB (eh f first (2 * k + 2)) x = cL := by
 have he := mw h (a := first) (n := 2 * k + 2) hw
 have hn : ew img.length ≤ k * f.pg := by
  unfold aM at h2
  rw [show (2 * k + 2 - 2) / 2 = k by omega] at h2
  unfold ew
  omega
 have e1 : (first + (k + 2)) * f.pg = (first + 2) * f.pg + k * f.pg := by rw [← Nat.add_mul]; congr 1; omega
 have e2 : (first + (k + 2)) * f.pg ≤ (first + (2 * k + 2)) * f.pg := Nat.mul_le_mul_right _ oM
 have e3 : (first + (2 * k + 2)) * f.pg ≤ f.ar.length * f.pg := Nat.mul_le_mul_right _ hw
 have e4 : first * f.pg ≤ (first + 2) * f.pg := Nat.mul_le_mul_right _ oM
 have cB : ∀ x, (first + 2) * f.pg ≤ x → x < (first + 2) * f.pg + ew img.length → aB (eh f first (2 * k + 2)) x = cL := fun x h1 h2 => by rw [he.page, iP oM]
 have hp := qP he.up hi (a := (first + 2) * f.pg) (n := ew img.length) (by rw [he.wl, he.pg]; omega) cB
 refine ⟨hp.up, hp.pg.trans he.pg, hp.wl.trans he.wl, hp.pk.trans he.pk, fun x => ?_, oM, oM, cB⟩
 show aB (iS _ _ _ _) x = _
 rw [hp.page, he.page]
structure abE (f : Fl) (first k : Nat) (v c : Int) (img : List Int) : Prop where
 op : cI (eD f first (2 * k + 2) img) first ((2 : Nat) : Int) (aH (aM f (2 * k + 2))) = 0
 ok : ∀ p ∈ aH (aM f (2 * k + 2)), p.ok
 s1 : ga (aJ (eD f first (2 * k + 2) img) first 2 (aH (aM f (2 * k + 2)))) 3 v = 0
 s2 : ga (aU (aJ (eD f first (2 * k + 2) img) first 2 (aH (aM f (2 * k + 2)))) 3 v) 4 img.length = 0
 s3 : ga (aU (aU (aJ (eD f first (2 * k + 2) img) first 2 (aH (aM f (2 * k + 2)))) 3 v) 4 img.length) 5 c = 0
 code : (iJ f first (2 * k + 2) v c img).2.2 = 0
 sv : eo (iJ f first (2 * k + 2) v c img).2.1 (iJ f first (2 * k + 2) v c img).1 [0, 2, 0, v, img.length, c, 0, 0, 0] none
 up : (iJ f first (2 * k + 2) v c img).2.1.up
 sp : (iJ f first (2 * k + 2) v c img).1.aw = aH (aM f (2 * k + 2))
 fi : (iJ f first (2 * k + 2) v c img).1.first = first
 bl : (iJ f first (2 * k + 2) v c img).1.aa = 2
theorem ef (h : f.ok) (hk : k ≤ 8) : aM f (2 * k + 2) ≤ 8192 := by
 unfold aM
 rw [show (2 * k + 2 - 2) / 2 = k by omega]
 have h2 := h.p2
 have := Nat.mul_le_mul hk h2
 omega
theorem wv (h : f.up) (hk : 1 ≤ k) (jE : k ≤ 8) (hw : first + (2 * k + 2) ≤ f.ar.length) (hp : 2 ≤ f.pg) (hi : Bytes img) (h1 : 1 ≤ img.length) (h2 : img.length ≤ aM f (2 * k + 2)) 
 {v c : Int} (hv : 1 ≤ v ∧ v ≤ 1073741824) (hc : 0 ≤ c ∧ c ≤ 4294967295) : abE f first k v c img := by
 obtain ⟨g1, g2, g3, g4, g5, g6, g7, _⟩ := ig h hw hk hi h2
 have hsz := ef h.ok jE
 obtain ⟨N, hN⟩ := ex (aM f (2 * k + 2))
 obtain ⟨g, hg⟩ := ex (eD f first (2 * k + 2) img)
 obtain ⟨m, hm⟩ := ex img.length
 rw [hg] at g1 g2 g3 g4 g5
 rw [hN] at h2 hsz
 rw [hm] at h1 h2
 have qX : eC g (first : Int) ((2 * k + 2 : Nat) : Int) = 0 := by
  unfold eC
  rw [iN (by rw [g1.dn]; decide), iN oM, iN (by rw [g3]; omega), iN (by rw [g2]; omega)]
 have oI := mj qX N
 have dc := iB (n := N) oM
 have dX : ∀ x, first * g.pg ≤ x → x < (first + 2) * g.pg → aB g x = cL := fun x h1 h2 => by
  rw [g2] at h1 h2
  have : (first + 2) * f.pg ≤ (first + (2 * k + 2)) * f.pg := Nat.mul_le_mul_right _ oM
  rw [g5, iN oM, iP oM]
 obtain ⟨-, s2, s3, s4, s5, -, -, s8, s9, s10, YH, YG⟩ := eo.ER g1.ok dX dc oI
 obtain ⟨s0, fp⟩ := ex (aJ g first 2 (aH N))
 rw [fp] at s2 s3 s4 s5 s8 s9 s10 YH YG
 obtain ⟨a1, a2⟩ := mP (n := N) YG s8 (i := 3) (v := v) rfl ⟨by simp only; omega, hv.2⟩
 obtain ⟨b1, b2⟩ := mP (n := N) (s := aU s0 ((3 : Nat) : Int) v) (by rw [a2]; exact YG) (by rw [a2]; exact s8) (i := 4) (v := (m : Int)) rfl ⟨by simp only; omega, by simp only; omega⟩
 obtain ⟨c1, c2⟩ := mP (n := N) (s := aU (aU s0 ((3 : Nat) : Int) v) ((4 : Nat) : Int) (m : Int)) (by rw [b2, a2]; exact YG) (by rw [b2, a2]; exact s8) (i := 5) (v := c) rfl ⟨hc.1, hc.2⟩
 have aab : dI v := by unfold dI; omega
 have SD : dI (m : Int) := by unfold dI; omega
 have aaC : dI c := by unfold dI; omega
 have hL := ((s2.set (i := ((3 : Nat) : Int)) aab).set (i := ((4 : Nat) : Int)) SD).set (i := ((5 : Nat) : Int)) aaC
 have VM : (aU (aU (aU s0 ((3 : Nat) : Int) v) ((4 : Nat) : Int) (m : Int)) ((5 : Nat) : Int) c).aj = [0, 2, 0, v, (m : Int), c, 0, 0, 0] := by
  rw [c2, b2, a2]
  simp only [s4]
  rfl
 have aad : (aU (aU (aU s0 ((3 : Nat) : Int) v) ((4 : Nat) : Int) (m : Int)) ((5 : Nat) : Int) c).saved = [0, 2, 0, 0, 0, 0, 0, 0, 0] := by
  rw [c2, b2, a2]
  simp only [s3]
  rfl
 have nO : Same s0 (aU (aU (aU s0 ((3 : Nat) : Int) v) ((4 : Nat) : Int) (m : Int)) ((5 : Nat) : Int) c) := ((eG _ _ _).trans (eG _ _ _)).trans (eG _ _ _)
 obtain ⟨d1, d2, d3⟩ := hL.I8 g1.fu (by rw [c2, b2, a2]; exact s5) (by rw [c2, b2, a2]; simp only [YH]; omega) (by
  rw [VM, aad]
  intro e
  simp only [List.cons.injEq] at e
  omega)
 rw [VM] at d2
 have EC := nO.trans (rB (aU (aU (aU s0 ((3 : Nat) : Int) v) ((4 : Nat) : Int) (m : Int)) ((5 : Nat) : Int) c) g)
 have e : iJ f first (2 * k + 2) v c img = ay (aU (aU (aU s0 ((3 : Nat) : Int) v) ((4 : Nat) : Int) (m : Int)) ((5 : Nat) : Int) c) g := by
  unfold iJ xS
  rw [hg, hN, fp, hm]
  rfl
 refine ⟨?_, ?_, ?_, ?_, ?_, ?_, ?_, ?_, ?_, ?_, ?_⟩
 ·rw [hg, hN]; exact oI
 ·rw [hN]; exact dc
 ·rw [hg, hN, fp]; exact a1
 ·rw [hg, hN, fp, hm]; exact b1
 ·rw [hg, hN, fp, hm]; exact c1
 ·rw [e]; exact d1
 ·rw [e, hm]; exact d2
 ·rw [e]; exact d3
 ·rw [e, hN]; exact EC.aw.trans s8
 ·rw [e]; exact EC.first.trans s9
 rw [e]; exact EC.aa.trans s10
theorem Em {v : List Int} (h : eo f s v none) (hd : f.aF = false) (gT : s.aw = aH n) (lk : s.first = first) (cB : s.aa = 2) :
 cI f first ((2 : Nat) : Int) (aH n) = 0 ∧ eo f (aJ f first 2 (aH n)) v none ∧ (aJ f first 2 (aH n)).saved = v ∧ (aJ f first 2 (aH n)).aw = aH n ∧ (aJ f first 2 (aH n)).first = first ∧ (aJ f first 2 (aH n)).aa = 2 := by
 have hs : aQ f = f := by unfold aQ; rw [iN (by rw [hd]; decide)]
 obtain ⟨a1, a2, a3, a4⟩ := h.again (by rw [gT]; exact ic n)
 rw [hs, gT, lk, cB] at a1 a2 a3 a4
 have hv : (aJ f first 2 (aH n)).saved = v := by
  rcases a3 with e | e
  ·exact e
  cases e
 rw [hv] at a2
 exact ⟨a1, a2, hv, a4.aw.trans gT, a4.first.trans lk, a4.aa.trans cB⟩
def tc (x : Int) : Int := if x % 2 = 1 then bits .xor .u32 (x / 2) 3988292384 else x / 2
def ta : Nat → Int → Int
 | 0, x => x
 | n + 1, x => tc (ta n x)
def Vg (c x : Int) : Int := ta 8 (bits .xor .u32 c x)
def oZ (b : List Int) : Int := b.foldl Vg 4294967295
def eS (b : List Int) : Int := bits .xor .u32 IntKind.u32.max (oZ b)
def MD (x : Int) : Prop := 0 ≤ x ∧ x < 4294967296
theorem u32_xor (a b : Int) : MD (bits .xor .u32 a b) := by
 obtain ⟨z, hz⟩ : ∃ z, bits .xor .u32 a b = IntKind.u32.wrap z := ⟨_, rfl⟩
 rw [hz]
 have e : IntKind.u32.wrap z = z % 4294967296 := rfl
 rw [e]
 exact ⟨Int.emod_nonneg _ oM, Int.emod_lt_of_pos _ oM⟩
theorem tA (a : Int) (h : MD a) : bits .and .u32 a 1 = a % 2 := by
 obtain ⟨A, rfl⟩ := Int.eq_ofNat_of_zero_le h.1
 have h2 := h.2
 show IntKind.u32.wrap ((BitVec.ofInt 32 (A : Int) &&& BitVec.ofInt 32 1).toNat : Int) = _
 have e : (BitVec.ofInt 32 (1 : Int)).toNat = 1 := by decide
 have e2 : (BitVec.ofInt 32 (A : Int)).toNat = A := by
  rw [BitVec.ofInt_natCast, BitVec.toNat_ofNat]; exact Nat.mod_eq_of_lt oM
 rw [BitVec.toNat_and, e, Nat.and_one_is_mod, e2]
 show ((A % 2 : Nat) : Int) % 4294967296 = _
 omega
theorem Mj {x : Int} (h : MD x) : MD (tc x) := by
 unfold tc
 split
 ·exact u32_xor _ _
 unfold MD at *; omega
theorem wL : ∀ (n : Nat) {x : Int}, MD x → MD (ta n x)
 | 0, x, h => h
 | n + 1, x, h => Mj (wL n h)
theorem yn (b : List Int) (x : Int) : oZ (b ++ [x]) = Vg (oZ b) x := by unfold oZ; rw [List.foldl_append]; rfl
theorem l6 (b : List Int) : MD (eS b) := u32_xor _ _
theorem nZ (A : Option Addr) (n c : Nat) (b : List Int) (w : World) (hA : Rd w w.heap.size A (ag .u8 b)) (hn : b.length = n) (hb : Bytes b) (hm : n ≤ 140737488351232) :
 Calls prog 22 #[.slice A n c] w fun e w' => e = .returned (.int .u32 (eS b)) ∧ ∃ q, w' = w.drewN q := by
 have HN := iD hn
 have HB := iD hb
 have HA := iD hA
 clear hn hA hb
 go_enter func22, ntmps22
 go_wp2
 go_loopw [3, 8] (fun s i wr => ∃ k : Nat, k ≤ n ∧ i = .int .i64 k ∧ s = .int .u32 (oZ (b.take k)) ∧ ∃ q, wr = w.drewN q) (fun _ i _ => n - (intOf i).toNat)
 case atStart => exact ⟨0, Nat.zero_le _, rfl, rfl, 0, rfl⟩
 case round =>
  obtain ⟨k, hk, rfl, rfl, q, rfl⟩ := hrel
  by_cases aY : k < n
  ·obtain ⟨x, hx⟩ := getElem?_of_lt (l := b) (k := k) (by rw [HN]; exact aY)
   obtain ⟨bb, off, rfl, cB, e0⟩ := HA.mq hx
   have qF := HB x (List.mem_of_getElem? hx)
   have HT : Hid (oZ (b.take (k + 1)) = ta 8 (bits .xor .u32 (oZ (b.take k)) x)) := by
    rw [Hid, bA b k x hx, yn]; rfl
   obtain ⟨C, hC⟩ := ex (oZ (b.take k))
   rw [hC] at HT ⊢
   have yO : x % 4294967296 = x := Int.emod_eq_of_lt qF.1 oM
   obtain ⟨Y, hY⟩ := ex (bits .xor .u32 C x)
   have HU : Hid (MD Y) := by rw [← hY]; exact u32_xor _ _
   rw [hY] at HT
   clear hx hC
   go_wp2
   go_loopw [3, 16] (fun s i wr => ∃ j : Nat, j ≤ 8 ∧ i = .int .i64 j ∧ s = .int .u32 (ta j Y) ∧ ∃ q, wr = w.drewN q) (fun _ i _ => 8 - (intOf i).toNat)
   case atStart => exact ⟨0, Nat.zero_le _, rfl, rfl, _, rfl⟩
   case round =>
    obtain ⟨j, hj, rfl, rfl, q, rfl⟩ := hrel
    by_cases hj8 : j < 8
    ·have HJ := iD (wL j HU)
     have TS : Hid (ta (j + 1) Y = tc (ta j Y)) := rfl
     obtain ⟨Z, hZ⟩ := ex (ta j Y)
     rw [hZ] at HJ TS ⊢
     have ha := tA Z HJ
     obtain ⟨z1, z2⟩ := HJ
     have hd : Z / 2 % 4294967296 = Z / 2 := Int.emod_eq_of_lt oM oM
     by_cases ho : Z % 2 = 1
     ·have HI : Hid (tc Z = bits .xor .u32 (Z / 2) 3988292384) := by unfold tc; rw [Hid, iP ho]
      rw [ho] at ha
      clear hZ
      go_wp2
      go_roundw
      case rel => exact ⟨j + 1, oM, by go_num, by rw [TS, HI], _, rfl⟩
      case measure => simp [intOf]; omega
     have HI : Hid (tc Z = Z / 2) := by unfold tc; rw [Hid, iN ho]
     have kV : Z % 2 = 0 := oM
     rw [kV] at ha
     clear hZ ho
     go_wp2
     go_roundw
     case rel => exact ⟨j + 1, oM, by go_num, by rw [TS, HI], _, rfl⟩
     case measure => simp [intOf]; omega
    have hj9 : j = 8 := oM
    subst hj9
    go_wp2
    go_roundw
    case rel => exact ⟨k + 1, oM, by go_num, by rw [HT], _, rfl⟩
    case measure => simp [intOf]; omega
  have kE : k = n := oM
  subst kE
  have HE : Hid (b.take k = b) := List.take_of_length_le (by rw [HN]; omega)
  rw [HE]
  have HS : Hid (eS b = bits .xor .u32 IntKind.u32.max (oZ b)) := rfl
  generalize oZ b = C at *
  go_wp2
  go_ret
  exact ⟨by rw [HS]; rfl, _, rfl⟩
theorem nG (A : Option Addr) (n c : Nat) (b : List Int) (w : World) (hA : Rd w w.heap.size A (ag .u8 b)) (hn : b.length = n) (hb : Bytes b) (hm : n ≤ 140737488351232) :
 Calls prog 33 #[.slice A n c] w fun e w' => e = .returned (.int .u32 (eS b)) ∧ ∃ q, w' = w.drewN q := by
 have HN := iD hn
 have HB := iD hb
 have HA := iD hA
 clear hn hA hb
 go_enter func33, ntmps33
 go_wp2
 go_loopw [3, 8] (fun s i wr => ∃ k : Nat, k ≤ n ∧ i = .int .i64 k ∧ s = .int .u32 (oZ (b.take k)) ∧ ∃ q, wr = w.drewN q) (fun _ i _ => n - (intOf i).toNat)
 case atStart => exact ⟨0, Nat.zero_le _, rfl, rfl, 0, rfl⟩
 case round =>
  obtain ⟨k, hk, rfl, rfl, q, rfl⟩ := hrel
  by_cases aY : k < n
  ·obtain ⟨x, hx⟩ := getElem?_of_lt (l := b) (k := k) (by rw [HN]; exact aY)
   obtain ⟨bb, off, rfl, cB, e0⟩ := HA.mq hx
   have qF := HB x (List.mem_of_getElem? hx)
   have HT : Hid (oZ (b.take (k + 1)) = ta 8 (bits .xor .u32 (oZ (b.take k)) x)) := by
    rw [Hid, bA b k x hx, yn]; rfl
   obtain ⟨C, hC⟩ := ex (oZ (b.take k))
   rw [hC] at HT ⊢
   have yO : x % 4294967296 = x := Int.emod_eq_of_lt qF.1 oM
   obtain ⟨Y, hY⟩ := ex (bits .xor .u32 C x)
   have HU : Hid (MD Y) := by rw [← hY]; exact u32_xor _ _
   rw [hY] at HT
   clear hx hC
   go_wp2
   go_loopw [3, 16] (fun s i wr => ∃ j : Nat, j ≤ 8 ∧ i = .int .i64 j ∧ s = .int .u32 (ta j Y) ∧ ∃ q, wr = w.drewN q) (fun _ i _ => 8 - (intOf i).toNat)
   case atStart => exact ⟨0, Nat.zero_le _, rfl, rfl, _, rfl⟩
   case round =>
    obtain ⟨j, hj, rfl, rfl, q, rfl⟩ := hrel
    by_cases hj8 : j < 8
    ·have HJ := iD (wL j HU)
     have TS : Hid (ta (j + 1) Y = tc (ta j Y)) := rfl
     obtain ⟨Z, hZ⟩ := ex (ta j Y)
     rw [hZ] at HJ TS ⊢
     have ha := tA Z HJ
     obtain ⟨z1, z2⟩ := HJ
     have hd : Z / 2 % 4294967296 = Z / 2 := Int.emod_eq_of_lt oM oM
     by_cases ho : Z % 2 = 1
     ·have HI : Hid (tc Z = bits .xor .u32 (Z / 2) 3988292384) := by unfold tc; rw [Hid, iP ho]
      have hb : Z.tmod 2 = 1 := by rw [Int.tmod_eq_emod_of_nonneg z1]; exact ho
      clear hZ
      go_wp2
      go_roundw
      case rel => exact ⟨j + 1, oM, by go_num, by rw [TS, HI], _, rfl⟩
      case measure => simp [intOf]; omega
     have HI : Hid (tc Z = Z / 2) := by unfold tc; rw [Hid, iN ho]
     have kV : Z % 2 = 0 := oM
     have hb : Z.tmod 2 = 0 := by rw [Int.tmod_eq_emod_of_nonneg z1]; exact kV
     clear hZ ho
     go_wp2
     go_roundw
     case rel => exact ⟨j + 1, oM, by go_num, by rw [TS, HI], _, rfl⟩
     case measure => simp [intOf]; omega
    have hj9 : j = 8 := oM
    subst hj9
    go_wp2
    go_roundw
    case rel => exact ⟨k + 1, oM, by go_num, by rw [HT], _, rfl⟩
    case measure => simp [intOf]; omega
  have kE : k = n := oM
  subst kE
  have HE : Hid (b.take k = b) := List.take_of_length_le (by rw [HN]; omega)
  rw [HE]
  have HS : Hid (eS b = bits .xor .u32 IntKind.u32.max (oZ b)) := rfl
  generalize oZ b = C at *
  go_wp2
  go_ret
  exact ⟨by rw [HS]; rfl, _, rfl⟩
theorem l5 (n lo hi : Int) (w : World) : Calls prog 58 #[.int .i64 n, .int .i64 lo, .int .i64 hi] w fun e w' => e = .returned (.bool (decide (lo ≤ n ∧ n ≤ hi))) ∧ w = w' := by
 by_cases h1 : lo ≤ n
 ·have d1 : decide (lo ≤ n) = true := by simpa using h1
  by_cases h2 : n ≤ hi
  ·have d2 : decide (n ≤ hi) = true := by simpa using h2
   rw [decide_eq_true (show lo ≤ n ∧ n ≤ hi from ⟨h1, h2⟩)]
   go_enter func58, ntmps58
   go_wp2
   go_ret
   exact ⟨rfl, rfl⟩
  have d2 : decide (n ≤ hi) = false := by simpa using h2
  rw [decide_eq_false (show ¬ (lo ≤ n ∧ n ≤ hi) from fun h => h2 h.2)]
  go_enter func58, ntmps58
  go_wp2
  go_ret
  exact ⟨rfl, rfl⟩
 have d1 : decide (lo ≤ n) = false := by simpa using h1
 rw [decide_eq_false (show ¬ (lo ≤ n ∧ n ≤ hi) from fun h => h1 h.1)]
 go_enter func58, ntmps58
 go_wp2
 go_ret
 exact ⟨rfl, rfl⟩
def eT (s : Int) (n : Nat) : List Int := (List.range n).map fun (i : Nat) => IntKind.u8.wrap (wrap64 (wrap64 ((i : Int) * wrap64 (wrap64 (2 * s) + 7)) + wrap64 (s * 31)))
theorem cS (s : Int) (n : Nat) : (eT s n).length = n := by simp [eT]
theorem I5 (s : Int) (h : i < n) : (eT s n)[i]? = some (IntKind.u8.wrap (wrap64 (wrap64 ((i : Int) * wrap64 (wrap64 (2 * s) + 7)) + wrap64 (s * 31)))) := by simp [eT, h]
theorem iC (s : Int) (n : Nat) : Bytes (eT s n) := by
 intro x hx
 simp only [eT, List.mem_map] at hx
 obtain ⟨i, _, rfl⟩ := hx
 generalize wrap64 (wrap64 ((i : Int) * wrap64 (wrap64 (2 * s) + 7)) + wrap64 (s * 31)) = z
 have e : IntKind.u8.wrap z = z % 256 := rfl
 rw [e]
 omega
theorem Mk (s n : Int) (w : World) : Calls prog 11 #[.int .i64 s, .int .i64 n] w fun e w' => ∃ A N, e = .returned (.slice A N N) ∧ N = (dN n 0 2000).toNat ∧ w'.ownsRow w.heap.size 5 1 (.slice A N N) N (ag .u8 (eT s N)) ∧ bW w w' := by
 have Dp := iD (mx n 0 2000 w)
 obtain ⟨N, hN⟩ := ex (dN n 0 2000).toNat
 have hcl : dN n 0 2000 = (N : Int) := by rw [← hN]; unfold dN; omega
 have GH : N ≤ 2000 := by rw [← hN]; unfold dN; omega
 rw [hcl] at Dp
 have FJ := iD hN
 clear hN hcl
 have SC : ∀ wx : World, (Instr.makeSlice 32 (.int .i64 N) (.int .i64 N)).run prog wx = .ok (.slice (some ⟨wx.heap.size, 0, none⟩) N N) (wx.alloc (.cells (madeCells #[.int .u8 0] N) 5)) := fun wx =>
  run_make_row' 32 5 (.int .u8 0) 1 underlying32 kz rfl .i64 .i64 N oM oM wx
 have FO : Hid ((madeCells #[.int .u8 0] N).toList = ag .u8 (List.replicate N 0)) := vL .u8 N
 generalize madeCells #[.int .u8 0] N = C8 at *
 go_enter func11, ntmps11
 go_wp2_with (fail)
 refine Dp.mono ?_
 rintro e w1 ⟨rfl, rfl⟩
 go_upto_region 2 with (fail)
 obtain ⟨W, hW⟩ := ex (w.alloc (.cells C8 5))
 have gg : Hid (bW w W) := by rw [← hW]; exact bV.alloc cV _
 have ue : Hid (W.ownsRow w.heap.size 5 1 (.slice (some ⟨w.heap.size, 0, none⟩) N N) N (ag .u8 (List.replicate N 0))) := by
  rw [← hW]
  exact fP FO (by rw [aD, List.length_replicate]) cV (by unfold maxLen; omega)
 rw [hW]
 clear hW SC
 go_wp2
 go_loopw [12] (fun i wr => ∃ j : Nat, j ≤ N ∧ i = .int .i64 j ∧ wr.ownsRow w.heap.size 5 1 (.slice (some ⟨w.heap.size, 0, none⟩) N N) N (ag .u8 (lay (List.replicate N 0) 0 ((eT s N).take j))) ∧ bW w wr) (fun i _ => N - (intOf i).toNat)
 case atStart => exact ⟨0, oM, rfl, by rw [List.take_zero, lD]; exact ue, gg⟩
 case round =>
  obtain ⟨j, hj, rfl, hO, hB⟩ := hrel
  have HO := iD hO
  have HB := iD hB
  clear hO hB
  by_cases aY : j < N
  ·have ib : (lay (List.replicate N 0) 0 ((eT s N).take j)).length = N := by rw [cK _ _ _ (by rw [List.length_take, List.length_replicate, cS]; omega), List.length_replicate]
   obtain ⟨z, hz⟩ := getElem?_of_lt (l := lay (List.replicate N 0) 0 ((eT s N).take j)) (k := j) (by rw [ib]; exact aY)
   have d0 := qQ ib HO hz
   have d1 : wr.frozen? ⟨w.heap.size, j, none⟩ = false := HO.frozenAt _
   have dX := jz (img := List.replicate N 0) (b := eT s N) (a := 0) (i := j) (by rw [List.length_replicate, cS]; omega) (I5 s aY)
   rw [Nat.zero_add] at dX
   have n1 := iu HO j (IntKind.u8.wrap (wrap64 (wrap64 ((j : Int) * wrap64 (wrap64 (2 * s) + 7)) + wrap64 (s * 31))))
   rw [dX] at n1
   have yb := iD n1
   clear hz n1 dX ib
   have uE : Hid (bW w _) := HB.setCell (p := ⟨w.heap.size, j, none⟩) cV (.int .u8 (IntKind.u8.wrap (wrap64 (wrap64 ((j : Int) * wrap64 (wrap64 (2 * s) + 7)) + wrap64 (s * 31)))))
   go_wp2
   go_roundw
   case rel => exact ⟨j + 1, oM, by go_num, yb, uE⟩
   case measure => simp [intOf]; omega
  have Bc : j = N := oM
  subst Bc
  have Dy : lay (List.replicate j 0) 0 ((eT s j).take j) = eT s j := by
   rw [List.take_of_length_le (by rw [cS]; exact Nat.le_refl _)]
   simp [lay, cS]
  have eO := HO.out
  rw [Dy] at eO
  have oA := iD eO
  clear eO Dy
  go_wp2
  go_ret
  exact ⟨_, _, rfl, FJ.symm, oA, HB⟩
variable {w0 w : World} {L : Lc} {f : Fl}
theorem nF (x : Int) : (x % 2 = 0 → x.tmod 2 = 0) ∧ (x % 2 ≠ 0 → x.tmod 2 = 1 ∨ x.tmod 2 = -1) := by
 have := Int.tmod_add_mul_tdiv x 2
 have h2 := Int.emod_add_mul_ediv x 2
 have h3 : -2 < x.tmod 2 ∧ x.tmod 2 < 2 := by
  constructor
  ·have := Int.lt_tmod_of_pos x (b := 2) oM; omega
  exact Int.tmod_lt_of_pos x oM
 omega
theorem wA (h : bB w0 w L f) (first aa : Int) (Cx : dI first) (dC : dI aa) :
 Calls prog 57 #[.pointer (some ⟨L.d, 0, none⟩), .int .i64 first, .int .i64 aa] w fun e w' => e = .returned (fx (eC f first aa)) ∧ w = w' := by
 have e1 := gO L.d
 have HD := iD (oc h)
 have HB := iD (wR h)
 have HP := iD (ir h)
 have HW := iD (l5 aa 4 18)
 have kC : f.ar.length ≤ 64 := h.ok.b2
 have iA : f.pg ≤ 16 := h.ok.p2
 obtain ⟨N, hN⟩ := ex f.ar.length
 obtain ⟨P, hP⟩ := ex f.pg
 rw [hN] at kC HB
 rw [hP] at iA HP
 unfold dI at Cx dC
 by_cases hd : f.aF = true
 ·have HR : Hid (eC f first aa = 20) := by unfold eC; rw [Hid, iP hd]
  rw [hd] at HD
  clear h hd hN hP
  go_enter func57, ntmps57
  go_wp2_with (fail)
  refine HD.mono ?_
  rintro e w1 ⟨rfl, rfl⟩
  go_wp2
  go_ret
  exact ⟨by rw [HR]; rfl, rfl⟩
 have kW : f.aF = false := by simpa using hd
 rw [kW] at HD
 by_cases hb : aa % 2 ≠ 0 ∨ aa < 4 ∨ 18 < aa
 ·have HR : Hid (eC f first aa = 3) := by unfold eC; rw [Hid, iN hd, iP hb]
  clear h hd kW hN hP
  by_cases hm : aa % 2 ≠ 0
  ·rcases (nF aa).2 hm with ht | ht
   all_goals
    clear hb hm
    go_enter func57, ntmps57
    go_wp2_with (fail)
    refine HD.mono ?_
    rintro e w1 ⟨rfl, rfl⟩
    go_wp2
    go_ret
    exact ⟨by rw [HR]; rfl, rfl⟩
  have nR : aa % 2 = 0 := by simpa using hm
  have ht := (nF aa).1 nR
  rw [decide_eq_false (show ¬ (4 ≤ aa ∧ aa ≤ 18) by omega)] at HW
  clear hb hm
  go_enter func57, ntmps57
  go_wp2_with (fail)
  refine HD.mono ?_
  rintro e w1 ⟨rfl, rfl⟩
  go_wp2_with (fail)
  refine (HW _).mono ?_
  rintro e w1 ⟨rfl, rfl⟩
  go_wp2
  go_ret
  exact ⟨by rw [HR]; rfl, rfl⟩
 have dP : aa % 2 = 0 ∧ 4 ≤ aa ∧ aa ≤ 18 := oM
 have ht := (nF aa).1 dP.1
 rw [decide_eq_true (show 4 ≤ aa ∧ aa ≤ 18 from dP.2)] at HW
 have Sn : IntKind.i64.wrap ((N : Int) - aa) = (N : Int) - aa := IntWalk.i64_in _ oM
 obtain ⟨aaK, aaJ, aaI⟩ := dP
 by_cases hi : first < 0 ∨ (N : Int) - aa < first
 ·have HR : Hid (eC f first aa = 10) := by unfold eC; rw [Hid, iN hd, iN hb, hN, iP hi]
  clear h hd kW hb hN hP
  by_cases h0 : first < 0
  ·have d0 : decide (first < 0) = true := by simpa using h0
   clear hi
   go_enter func57, ntmps57
   go_wp2_with (fail)
   refine HD.mono ?_
   rintro e w1 ⟨rfl, rfl⟩
   go_wp2_with (fail)
   refine (HW _).mono ?_
   rintro e w1 ⟨rfl, rfl⟩
   go_wp2
   go_ret
   exact ⟨by rw [HR]; rfl, rfl⟩
  have d0 : decide (first < 0) = false := by simpa using h0
  have d1 : decide ((N : Int) - aa < first) = true := by simp; omega
  have d1b : (N : Int) - aa < first := oM
  clear hi
  go_enter func57, ntmps57
  go_wp2_with (fail)
  refine HD.mono ?_
  rintro e w1 ⟨rfl, rfl⟩
  go_wp2_with (fail)
  refine (HW _).mono ?_
  rintro e w1 ⟨rfl, rfl⟩
  go_wp2_with (fail)
  refine HB.mono ?_
  rintro e w1 ⟨rfl, rfl⟩
  go_wp2
  go_ret
  exact ⟨by rw [HR]; rfl, rfl⟩
 have h0 : ¬ first < 0 := fun e => hi (.inl e)
 have d0 : decide (first < 0) = false := by simpa using h0
 have d1b : ¬ (N : Int) - aa < first := fun e => hi (.inr e)
 have d1 : decide ((N : Int) - aa < first) = false := by simpa using d1b
 have FB : (P < 2 ∧ Hid (eC f first aa = 11)) ∨ (¬ P < 2 ∧ Hid (eC f first aa = 0)) := by
  have : eC f first aa = if P < 2 then 11 else 0 := by unfold eC; rw [iN hd, iN hb, hN, iN hi, hP]
  by_cases Dw : P < 2
  ·exact .inl ⟨Dw, by rw [Hid, this, iP Dw]⟩
  exact .inr ⟨Dw, by rw [Hid, this, iN Dw]⟩
 clear h hd kW hb hi hN hP
 rcases FB with ⟨Dw, XL⟩ | ⟨Dw, XL⟩
 all_goals
  go_enter func57, ntmps57
  go_wp2_with (fail)
  refine HD.mono ?_
  rintro e w1 ⟨rfl, rfl⟩
  go_wp2_with (fail)
  refine (HW _).mono ?_
  rintro e w1 ⟨rfl, rfl⟩
  go_wp2_with (fail)
  refine HB.mono ?_
  rintro e w1 ⟨rfl, rfl⟩
  go_wp2_with (fail)
  refine HP.mono ?_
  rintro e w1 ⟨rfl, rfl⟩
  go_wp2
  go_ret
  exact ⟨by rw [XL]; rfl, rfl⟩
theorem oP (h : bB w0 w L f) (k : Nat) (hk : k ≤ 8) (bl : Int) (cB : bl = ((2 * k + 2 : Nat) : Int)) :
 Calls prog 59 #[.pointer (some ⟨L.d, 0, none⟩), .int .i64 bl] w fun e w' => e = .returned (.int .i64 (aM f (2 * k + 2) : Nat)) ∧ w = w' := by
 have HP := iD (ir h)
 have iA : f.pg ≤ 16 := h.ok.p2
 have HS : Hid (((aM f (2 * k + 2) : Nat) : Int) = (k : Int) * (f.pg : Int) * 64) := by
  rw [Hid]; unfold aM
  rw [show (2 * k + 2 - 2) / 2 = k by omega]
  push_cast
  rfl
 have h1 : (k : Int) * (f.pg : Int) ≤ 128 := by
  have h2 := Nat.mul_le_mul hk iA
  have h3 : ((k * f.pg : Nat) : Int) ≤ 128 := oM
  push_cast at h3
  exact h3
 have h0 : (0 : Int) ≤ (k : Int) * (f.pg : Int) := Int.mul_nonneg oM oM
 have q1 : (bl - 2).tdiv 2 = k := by rw [cB, Int.tdiv_eq_ediv_of_nonneg oM]; omega
 have q1' : (bl - 2) / 2 = k := by rw [cB]; omega
 have q0 : IntKind.i64.wrap (bl - 2) = bl - 2 := IntWalk.i64_in _ oM
 have q2 : IntKind.i64.wrap ((k : Int) * (f.pg : Int)) = (k : Int) * (f.pg : Int) := IntWalk.i64_in _ oM
 have q3 : IntKind.i64.wrap ((k : Int) * (f.pg : Int) * 64) = (k : Int) * (f.pg : Int) * 64 := IntWalk.i64_in _ oM
 have Wy : 4 ≤ bl + 2 ∧ bl ≤ 18 := oM
 obtain ⟨dC, dP⟩ := Wy
 have uJ := iD cB
 generalize f.pg = P at *
 clear h cB
 go_enter func59, ntmps59
 go_wp2_with (fail)
 refine HP.mono ?_
 rintro e w1 ⟨rfl, rfl⟩
 go_wp2
 go_ret
 exact ⟨by rw [HS]; rfl, rfl⟩
def vz (n : Nat) : List eB := [⟨0, 1073741824, 0⟩, ⟨0, n, 0⟩, ⟨0, 4294967295, 0⟩]
theorem CF (n j : Nat) (hj : j < 2) : (aH n).take (3 + 3 * (j + 1)) = (aH n).take (3 + 3 * j) ++ vz n := by
 match j, hj with
 | 0, _ => rfl
 | 1, _ => rfl
theorem pK (a b : List eB) : bK (a ++ b) = bK a ++ bK b := by unfold bK; rw [List.flatMap_append]
theorem yV (n : Nat) (hn : n ≤ 1000000) (w : World) : Calls prog 65 #[.int .i64 (n : Int)] w fun e w' => ∃ A c, e = .returned (.slice A 9 c) ∧ 9 ≤ c ∧ c ≤ maxLen ∧ Rd w' w'.heap.size A (bK (aH n)) ∧ bW w w' := by
 obtain ⟨i9, OG, Ey, Ex, Ew⟩ := info_parts zM
 have h3 : (3 : Nat) ≤ maxLen := by unfold maxLen; omega
 go_enter func65, ntmps65
 go_wp2
 obtain ⟨W, hW⟩ := ex (w.alloc (.cells #[.int .i64 0, .int .i64 1, .int .i64 0, .int .i64 0, .int .i64 2, .int .i64 2, .int .i64 0, .int .i64 3, .int .i64 0] 132))
 have gg : Hid (bW w W) := by rw [← hW]; exact bV.alloc cV _
 have ue : Hid (W.ownsRow w.heap.size 132 3 (.slice (some ⟨w.heap.size, 0, none⟩) 3 3) 3 (bK ((aH n).take 3))) := by
  rw [← hW]
  exact World.ownsRow_lit w #[.int .i64 0, .int .i64 1, .int .i64 0, .int .i64 0, .int .i64 2, .int .i64 2, .int .i64 0, .int .i64 3, .int .i64 0] 3 cV h3 rfl
 rw [hW]
 clear hW
 go_loopw [3, 8] (fun v i wr => ∃ j : Nat, j ≤ 2 ∧ i = .int .i64 j ∧ wr.ownsRow w.heap.size 132 3 v (3 + 3 * j) (bK ((aH n).take (3 + 3 * j))) ∧ bW w wr) (fun _ i _ => 2 - (intOf i).toNat)
 case atStart => exact ⟨0, oM, rfl, ue, gg⟩
 case round =>
  obtain ⟨j, hj, rfl, hO, hB⟩ := hrel
  obtain ⟨A1, c1, rfl, h4, h5, h6⟩ := a9 hO
  have HO := iD hO
  have HB := iD hB
  clear hO hB h6
  by_cases aY : j < 2
  ·have pz := iD (Rd.new wr #[.int .i64 0, .int .i64 1073741824, .int .i64 0, .int .i64 0, .int .i64 n, .int .i64 0, .int .i64 0, .int .i64 4294967295, .int .i64 0] 132 (bK (vz n)) rfl)
   have mB : Hid ((wr.alloc (.cells #[.int .i64 0, .int .i64 1073741824, .int .i64 0, .int .i64 0, .int .i64 n, .int .i64 0, .int .i64 0, .int .i64 4294967295, .int .i64 0] 132)).ownsRow w.heap.size 132 3 (.slice A1 (3 + 3 * j) c1) (3 + 3 * j) (bK ((aH n).take (3 + 3 * j)))) := aC HO (bV.alloc cV _)
   have U5 := iD (CF n j aY)
   have Bl : Hid (w.heap.size ≤ wr.heap.size) := HB.size
   go_wp2_with (at_builtin; refine aN _ rfl _ _ 40 rfl w.heap.size 132 i9 (.agg #[.int .i64 0, .int .i64 0, .int .i64 0]) 3 24 underlying40 OG Ey Ex Ew rfl oM _ (3 + 3 * j) (bK ((aH n).take (3 + 3 * j))) rfl mB.out (wr.heap.size + 1) _ 3 3 (bK (vz n)) rfl pz.out rfl (mR _) (by unfold maxLen; omega) oM (by rw [World.size_alloc]; have := Bl.out; omega) ?_)
   intro v' w2 bY hgrow kg
   have gh : Hid (bW w w2) := (HB.out.alloc HB.out.size _).grown hgrow (by rw [World.size_alloc]; have := Bl.out; omega) (fun k hk => (mB.out.lt k hk).1)
   rw [← pK, ← U5] at bY
   have se := iD bY
   clear bY hgrow kg
   go_wp2
   go_roundw
   case rel => exact ⟨j + 1, oM, by go_num, se, gh⟩
   case measure => simp [intOf]; omega
  have JQ : j = 2 := oM
  subst JQ
  have H4 : Hid (3 + 3 * 2 ≤ c1) := h4
  have H5 := iD h5
  clear h4 h5
  go_wp2
  go_ret
  exact ⟨A1, c1, rfl, H4, H5, ku HO, HB⟩
theorem Gi (A : Option Addr) (n c : Nat) (b : List Int) (w : World) (hA : Rd w w.heap.size A (ag .u8 b)) (hn : b.length = n) (hm : n ≤ 64) :
 Calls prog 63 #[.slice A n c] w fun e w' => ∃ A' c', e = .returned (.slice A' 64 c') ∧ w'.ownsRow w.heap.size 5 1 (.slice A' 64 c') 64 (ag .u8 (gd b)) ∧ bW w w' := by
 have HC := iD (kQ A n c w.heap.size b w hA cV hn oM)
 obtain ⟨i5, rS, jd, jc, jb⟩ := info_parts kz
 have HP : Hid (gd b = b ++ List.replicate (64 - n) 255) := by rw [Hid]; unfold gd; rw [hn]
 have HN := iD hn
 clear hA hn
 go_enter func63, ntmps63
 go_wp2_with (fail)
 refine HC.mono ?_
 rintro e w1 ⟨v1, rfl, hO, hB⟩
 have iL := iD hO
 have yh := iD hB
 clear hO hB
 go_wp2
 go_loopw [3] (fun v wr => ∃ j : Nat, n + j ≤ 64 ∧ wr.ownsRow w.heap.size 5 1 v (n + j) (ag .u8 (b ++ List.replicate j 255)) ∧ bW w wr) (fun v _ => 64 - (match v with | .slice _ m _ => m | _ => 0))
 case atStart => exact ⟨0, oM, by simpa using iL.out, yh.out⟩
 case round =>
  obtain ⟨j, hj, hO, hB⟩ := hrel
  obtain ⟨A1, c1, rfl, h1, h2, h3⟩ := a9 hO
  have HO := iD hO
  have HB := iD hB
  clear hO hB h3
  by_cases aY : n + j < 64
  ·have pz := iD (Rd.new wr #[.int .u8 255] 5 (ag .u8 [255]) rfl)
   have mB : Hid ((wr.alloc (.cells #[.int .u8 255] 5)).ownsRow w.heap.size 5 1 (.slice A1 (n + j) c1) (n + j) (ag .u8 (b ++ List.replicate j 255))) := aC HO (bV.alloc cV _)
   have Bl : Hid (w.heap.size ≤ wr.heap.size) := HB.size
   have zi : Hid (b ++ List.replicate (j + 1) 255 = b ++ List.replicate j 255 ++ [255]) := by rw [Hid, List.append_assoc, ← List.replicate_succ']
   go_wp2_with (at_builtin; refine aN _ rfl _ _ 32 rfl w.heap.size 5 i5 (.int .u8 0) 1 1 underlying32 rS jd jc jb rfl oM _ (n + j) (ag .u8 (b ++ List.replicate j 255)) rfl mB.out (wr.heap.size + 1) _ 1 1 (ag .u8 [255]) rfl pz.out rfl (cZ _ _) (by unfold maxLen; omega) oM (by rw [World.size_alloc]; have := Bl.out; omega) ?_)
   intro v' w2 bY hgrow kg
   have gh : Hid (bW w w2) := (HB.out.alloc HB.out.size _).grown hgrow (by rw [World.size_alloc]; have := Bl.out; omega) (fun k hk => (mB.out.lt k hk).1)
   rw [← dp, ← zi] at bY
   obtain ⟨A2, c2, rfl, h4, h5, h6⟩ := a9 bY
   have se := iD bY
   clear bY hgrow kg h6
   go_wp2
   go_roundw
   case rel => exact ⟨j + 1, oM, se, gh⟩
   case measure => simp; omega
  have JQ : n + j = 64 := oM
  have HE : Hid (j = 64 - n) := by rw [Hid]; omega
  rw [JQ] at HO ⊢
  clear h1 h2
  go_wp2
  go_ret
  exact ⟨A1, c1, rfl, by have := HO.out; rw [HE.out, ← HP.out] at this; exact this, HB.out⟩
end Go.Proofs.YtjdknddnanopaaaGreat
