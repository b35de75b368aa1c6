/-
  Part 12 of the proof.
-/
import Derived.Test.YtjdknddnanopaaaGreatQ11
namespace Go.Proofs.YtjdknddnanopaaaGreat
open Go.RowKit Tryz
set_option maxRecDepth 100000
set_option maxHeartbeats 16000000
set_option linter.all false
variable {f g : Fl} {s : St} {w : World} {a first i k m n p : Nat} {X : Nat → Prop} {q : Qv} {b img : List Int} {x : Rc} {P : Program} {ops : Array Oper} {rest : List Oper} {o : Oper} {aa : Int}
theorem Aw (h : ic X w q s g.pg) (hR : cf X w x g) (ho : bD g s) (hX : ∀ b, X b → b < w.heap.size) (nl : s.af = g.aF) (mX : s.bt = false → fX (s.seq + 1) s.aj.length = 0) :
 Calls prog 83 #[q.v s, x.v g] w fun e w' => ∃ q' : Qv, e = .returned (.tuple #[q'.v (aZ s g), .int .i64 (aO s g)]) ∧ ic X w' q' (aZ s g) g.pg ∧ bW w w' := by
 have Wq : ga s g = s := by
  unfold ga
  rw [nl, Bool.or_self]
  cases s
  simp only at nl
  rw [nl]
 have stay : aO s g ≠ 0 → aZ s g = s := fun e => by unfold aZ; rw [iN e, Wq]
 by_cases hb : s.af = true
 ·have he : aO s g = 20 := by unfold aO; rw [hb, Bool.true_or, iP rfl]
  rw [stay (by rw [he]; decide), he]
  have := Mq w q s x g
  unfold Qv.v
  rw [hb]
  exact this.mono fun e w' ⟨h1, h2⟩ => ⟨q, h1, h.below h2, h2⟩
 have cU : s.af = false := by simpa using hb
 have hd : g.aF = false := by rw [← nl]; exact cU
 by_cases hu : s.bt = true
 ·have he : aO s g = 14 := by unfold aO; rw [cU, hd, iN (by decide), iP hu]
  rw [stay (by rw [he]; decide), he]
  have hw := h.wr cU hu
  have qc := ho.dn hu cU
  have fQ := ho.pl hu
  have jG := ho.k8
  have JN : q.n5 = s.k - s.done := by rw [← hw.pl, List.length_drop, fQ]
  have := Mn w q s x g q.n5 q.c5 oM oM
  unfold Qv.v Rc.v
  rw [cU, hd]
  exact this.mono fun e w' ⟨h1, h2⟩ => ⟨q, h1, h.below h2, h2⟩
 have pY : s.bt = false := by simpa using hu
 have xu := h.no cU pY
 obtain ⟨n, gT⟩ := ex s.ax.length
 have xL : s.aj.length = n := by rw [ho.tl, gT]
 have lQ : s.an.length = n := by rw [ho.sl, gT]
 have uC := ho.n2
 rw [gT] at uC
 by_cases nO : s.aj = s.an
 ·have he : aO s g = 12 := by unfold aO; rw [cU, hd, iN (by decide), iN hu, iP nO]
  rw [stay (by rw [he]; decide), he]
  have := Mo w q s x g n q.c5 uC h.b h.c xL lQ nO
  unfold Qv.v Rc.v
  rw [cU, hd, xu, gT, xL, lQ]
  exact this.mono fun e w' ⟨h1, h2⟩ => ⟨q, by rw [h1, xu], h.below h2, h2⟩
 have henc' := mX pY
 rw [xL] at henc'
 have he : aO s g = 0 := by unfold aO; rw [cU, hd, iN (by decide), iN hu, iN nO, xL]; exact henc'
 have hS : aZ s g = { bj s g with bZ := dS (s.seq + 1) s.aj, values := s.aj, done := 0, bt := true } := by unfold aZ; rw [iP he, Wq]
 have qa := h.b1
 rw [xL] at qa
 have := Mp w q s x g n q.c5 h.b h.c xL lQ hR hX hd ho gT nO henc' qa h.b2
 unfold Qv.v Rc.v
 rw [cU, hd, xu, gT, xL, lQ]
 refine this.mono ?_
 rintro e w' ⟨Q8, c8, Q9, c9, nb, ns, er, h1, h2, h3, h4, h5, h6, h7, h8, h9⟩
 obtain ⟨p1, p2, p3, p4, p5, p6, p7, p8, p9⟩ := ik s g
 have fQ : (bj s g).bH = nb ∧ (bj s g).bg = ns ∧ er = if (bj s g).erase = true then ((s.first + nb : Nat) : Int) else -1 := by
  unfold bj
  rcases h9 with ⟨e1, e2, e3⟩ | ⟨e1, e2, e3, e4⟩
  ·rw [e1]
   exact ⟨e2.symm, rfl, e3⟩
  rw [e1]
  subst e3
  refine ⟨e2.symm, rfl, ?_⟩
  simp only
  rw [← e2, e4]
  cases cG g (aG s g nb 0) g.pg <;> rfl
 obtain ⟨sO, Dq, hp3⟩ := fQ
 have hl := h.below h2
 have hk : cO n = (bj s g).k := by unfold St.k; rw [p3, gT]
 refine ⟨{ q with Q4 := Q8, n4 := n, c4 := c8, Q5 := Q9, n5 := cO n, c5 := c9, pg := (((s.first + nb) * g.pg + ns * cO n : Nat) : Int), er := er, nb := nb, ns := ns }, ?_, ?_, h2⟩
 ·rw [h1, hS, he]
  simp only [p1, p2, p3, p4, p5, p6, p7, p8, cU, gT, xL, lQ, p9]
 rw [hS]
 refine ⟨by simp only [p3]; exact hl.a, by simp only [p3]; exact hl.a1, hl.a2, by simp only [p5]; exact hl.b, by simp only [p5]; exact hl.b1, hl.b2, by simp only [p4]; exact hl.c, by simp only [p4]; exact hl.QK, hl.QJ, h5, h6, h7, h8, fun _ _ => ⟨h3, xL, by simp only [List.drop_zero]; exact h4, by simp only [List.drop_zero]; rw [wE, xL], ?_, ?_, by simp only [sO], by simp only [Dq]⟩, fun _ e => by cases e⟩
 ·simp only [sO, Dq, p1, Nat.add_zero]
  unfold St.k
  simp only [p3, gT]
 simp only [sO, p1]
 exact hp3
theorem mF {a : Act} {Q : Exit → Act → World → Prop} {v : Value} (hg : o.guard = none) (he : (execOp a.eval o).run P w = .ok (.value v) w) 
 (h : wpList P ops Q rest (a.put o.dst v) w) : wpList P ops Q (o :: rest) a w :=
 wpList_plain hg fun _ hK => (by unfold Oper.wp; rw [he]; exact hK _ _ h)
theorem iL {a : Act} {Q : Exit → Act → World → Prop} {al : List Value} (hg : o.guard = none) 
 (xl : List Operand) (JZ : Array TypeId) (ho : o.op = .call { callee := .value (.func n), args := xl.toArray, argTypes := JZ }) (hargs : xl.map a.eval = al) (vW : ∀ (args : Array Value) (w : World), (callFunc n args).run P w = .ok (.enter n args) w)
 (h : Calls P n al.toArray w fun e w' => ∃ v, e = .returned v ∧ wpList P ops Q rest (a.put o.dst v) w') : wpList P ops Q (o :: rest) a w := by
 refine wpList_plain hg fun _ hK => ?_
 have he : (execOp a.eval o).run P w = .ok (.enter n al.toArray) w := by
  obtain ⟨dst, op, ty, pos, after, guard⟩ := o
  simp only at ho
  subst ho
  rw [execOp_call_go, show (#[] ++ xl.toArray.map a.eval ++ #[] : Array Value) = al.toArray by rw [← hargs]; simp]
  exact vW _ _
 unfold Oper.wp
 rw [he, Oper.upon_enter]
 refine h.mono ?_
 rintro e w' ⟨v, rfl, h1⟩
 exact hK _ _ h1
def K4 (D : Nat) (w : World) : Nat :=
 (match w.cell? ⟨D, 9, none⟩ with | some (.slice _ n _) => n | _ => 0) + (match w.cell? ⟨D, 11, none⟩ with | some (.int _ k) => (if 0 ≤ k then 1 else 0) | _ => 0)
structure Yy (X : Nat → Prop) (w wr : World) (NC : St × Fl × Int) (n : Nat) (q : Qv) (s : St) (y : Rc) (f : Fl) (p : Nat) : Prop where
 hy : Hy w wr (q.l s).toArray (y.l f).toArray
 rv : ic (XN X w.heap.size) wr q s p
 rf : cf (XN X w.heap.size) wr y f
 ok : bD f s
 b : s.af = false
 u : s.bt = true
 left : iR s ≤ n
 run : NC = iZ n s f
 pg : f.pg = p
theorem Yy.lf {wr : World} {NC : St × Fl × Int} {y : Rc} (h : Yy X w wr NC n q s y f p) : K4 w.heap.size wr = iR s := by
 have h9 := h.hy.row 9 (u := .slice q.Q5 q.n5 q.c5) rfl
 have h11 := h.hy.row 11 (u := .int .i64 q.er) rfl
 have hw := h.rv.wr h.b h.u
 unfold K4 iR
 rw [h9, h11]
 simp only
 have h1 := hw.pl
 rw [List.length_drop] at h1
 rw [← h1, hw.er]
 by_cases he : s.erase = true
 ·rw [iP he, iP he, iP oM]
 rw [iN he, iN he, iN (by decide)]
theorem ic.xn {w' : World} (h : ic X w q s p) (hX : ∀ b, X b → b < w.heap.size) (hb : bW w w') : ic (XN X w.heap.size) w' q s p := by
 refine (h.dQ (Y := XN X w.heap.size) (fun b hb hx => ?_)).below hb
 rcases hx with hx | hx
 ·exact hx
 omega
theorem ic.cX {Y : Nat → Prop} (h : ic X w q s p) (hX : ∀ b, Y b → X b) : ic Y w q s p := h.dQ (fun b _ => hX b)
theorem E6 (h : aO s f ≠ 0) : aA s f = (aZ s f, f, aO s f) := by unfold aA; rw [iP h]
theorem CT (h : aO s f = 0) : aA s f = iZ 10 (aZ s f) f := by unfold aA; rw [iN (by rw [h]; decide)]
theorem GB (args : Array Value) (w : World) : (callFunc 83 args).run prog w = .ok (.enter 83 args) w := by
 go_simp
theorem OZ (args : Array Value) (w : World) : (callFunc 84 args).run prog w = .ok (.enter 84 args) w := by
 go_simp
theorem NQ (s : St) (f : Fl) : (aI s f).2.1.pg = f.pg := (gq s f).p
theorem E4 (h : ic X w q s g.pg) (hR : cf X w x g) (ho : bD g s) (hX : ∀ b, X b → b < w.heap.size) (nl : s.af = g.aF) (mX : s.bt = false → fX (s.seq + 1) s.aj.length = 0) (he : aO s g ≠ 0) :
 Calls prog 34 #[q.v s, x.v g] w fun e w' => ∃ (q' : Qv) (y : Rc), e = .returned (.tuple #[q'.v (aA s g).1, y.v (aA s g).2.1, .int .i64 (aA s g).2.2]) ∧ ic X w' q' (aA s g).1 g.pg ∧ cf X w' y (aA s g).2.1 ∧ bW w w' := by
 rw [E6 he]
 obtain ⟨W, hW⟩ := ex ((((w.alloc (.cells (aS q s) 43)).alloc (.cells (aX x g) 35)).alloc (.cells qt 43)).alloc (.cells Bh 35))
 have HY := iD (Hy.new hW.symm ⟨_, rfl, rfl⟩ ⟨_, rfl, rfl⟩)
 have hsz := HY.lt
 have DF := iD (Aw (h.xn hX HY.below) (hR.xn HY.below) ho (XN.lt hX hsz) nl mX)
 obtain ⟨⟨s1, k1⟩, dB⟩ := ex (aZ s g, aO s g)
 have JS : aZ s g = s1 := congrArg Prod.fst dB
 have LA : aO s g = k1 := congrArg Prod.snd dB
 clear dB
 rw [JS, LA] at DF
 rw [JS, LA]
 rw [LA] at he
 have hk : (k1 != 0) = true := by simpa using he
 have gj := iD HY.below
 have Bi := iD hR
 have MG := iD hX
 unfold Qv.v Rc.v
 clear h hR ho hX nl mX JS LA he hsz
 go_enter func34, ntmps34
 go_upto_region 1 with (fail)
 try rw [hW]
 clear hW
 refine wp_region_list ?_
 refine wpList_load_row rfl 43 _ rfl w.heap.size rfl 43 (aS q s) (0, 0) _ HY.h underlying43 rfl aP ?_
 refine wpList_load_row rfl 35 _ rfl (w.heap.size + 1) rfl 35 (aX x g) (0, 0) _ HY.h4 underlying35 rfl dK ?_
 simp only [nm]
 refine iL (n := 83) (al := [.agg (aS q s), .agg (aX x g)]) rfl _ _ rfl (by rfl) GB ?_
 refine DF.mono ?_
 rintro e w1 ⟨q1, rfl, iE, dB⟩
 refine ⟨_, rfl, ?_⟩
 simp only [nm]
 have UE := iD (HY.ab dB)
 have uX := iD iE
 have Df := iD (Bi.xn (gj.trans (dB.mono gj.size)))
 clear iE dB
 refine wV (.tuple #[.agg (aS q1 s1), .int .i64 k1]) ?_
 refine wV (.agg (aS q1 s1)) ?_
 refine wV (.int .i64 k1) ?_
 refine wpList_store_row rfl 43 _ _ rfl w.heap.size (aS q1 s1) rfl rfl 43 (aS q s) UE.h aP rfl (iv ..) ?_
 have No := iD (UE.put (aS q1 s1))
 have xU := iD (uX.ao (ah.row w1 w.heap.size (aS q1 s1) (ve _ _)))
 have um := iD (Df.ao (ah.row w1 w.heap.size (aS q1 s1) (ve X w.heap.size)))
 generalize w1.setRow w.heap.size (aS q1 s1) = W2 at No xU um ⊢
 go_upto_region 3 with (fail)
 have jh := iD ((No).ab fT)
 obtain ⟨gY, iF, jV⟩ := jh.h8
 obtain ⟨KV, kd, Nl⟩ := jh.h9
 refine wp_region_held (S := fun w' => w'.heap[w.heap.size]? = some (.cells (aS q1 s1) 43 (0, 0)) ∧ w'.heap[w.heap.size + 1]? = some (.cells (aX x g) 35 (0, 0))) (by kernel_rfl) ?_
 refine wpAnyH_take (i := 0) (v := .agg (aS q1 s1)) rfl (by kernel_rfl) (by kernel_rfl) (by kernel_rfl) (fun _ _ _ h => h) ?_ ⟨jh.h, jh.h4⟩ ?_
 ·refine bF ?_ 43 _ rfl w.heap.size rfl 43 _ (0, 0) _ (fun _ h => h.1) underlying43 rfl aP
  rfl
 change wpAnyH _ _ _ _ _ _ _ (Act.put _ (some 17) _) _
 simp only [nm]
 refine wpAnyH_take (i := 1) (v := .agg (aX x g)) rfl (by kernel_rfl) (by kernel_rfl) (by kernel_rfl) (fun _ _ _ h => h) ?_ ⟨jh.h, jh.h4⟩ ?_
 ·refine bF ?_ 35 _ rfl (w.heap.size + 1) rfl 35 _ (0, 0) _ (fun _ h => h.2) underlying35 rfl dK
  rfl
 change wpAnyH _ _ _ _ _ _ _ (Act.put _ (some 18) _) _
 simp only [nm]
 refine wpAnyH_take (i := 2) (v := .int .i64 k1) rfl (by kernel_rfl) (by kernel_rfl) (by kernel_rfl) (fun _ _ _ h => h) ?_ ⟨jh.h, jh.h4⟩ ?_
 ·refine lM (x := .tmp 7) ?_ rfl
  rfl
 change wpAnyH _ _ _ _ _ _ _ (Act.put _ (some 19) _) _
 simp only [nm]
 refine cR (i := 3) (by kernel_rfl) rfl (by rfl) rfl 43 _ _ rfl (w.heap.size + 2) (aS q1 s1) gY rfl rfl 43 jV aP iF (iv ..) ⟨(setRow_other _ _ _ _ oM).trans jh.h, (setRow_other _ _ _ _ oM).trans jh.h4⟩ ?_
 refine cR (i := 4) (by kernel_rfl) rfl (by rfl) rfl 35 _ _ rfl (w.heap.size + 3) (aX x g) KV rfl rfl 35 ((setRow_other _ _ _ _ oM).trans Nl) dK kd (B3 ..) ⟨(setRow_other _ _ _ _ oM).trans ((setRow_other _ _ _ _ oM).trans jh.h), (setRow_other _ _ _ _ oM).trans ((setRow_other _ _ _ _ oM).trans jh.h4)⟩ ?_
 refine wpAnyH_take (i := 5) (v := .int .i64 k1) rfl (by kernel_rfl) (by kernel_rfl) (by kernel_rfl) (fun _ _ _ h => h) ?_ ⟨(setRow_other _ _ _ _ oM).trans ((setRow_other _ _ _ _ oM).trans jh.h), (setRow_other _ _ _ _ oM).trans ((setRow_other _ _ _ _ oM).trans jh.h4)⟩ ?_
 ·refine jK (x := .tmp 19) ?_ rfl
  rfl
 change wpAnyH _ _ _ _ _ _ _ (Act.put _ (some 6) _) _
 simp only [nm]
 refine wD ?_
 go_wp2
 (try simp only [Exit.inBlock, Exit.then])
 refine bodyPost_ret (v := .tuple #[.agg (aS q1 s1), .agg (aX x g), .int .i64 k1]) (lP (p := 4) (p' := 5) (u := 6) rfl _ _ (w.heap.size + 2) (w.heap.size + 3) 43 35 (aS q1 s1) (aX x g) _ _ rfl rfl ((setRow_other _ _ _ _ oM).trans (setRow_heap _ _ _ _ _ _ jV)) (setRow_heap _ _ _ _ _ _ ((setRow_other _ _ _ _ oM).trans Nl)) underlying43 rfl aP underlying35 rfl dK) rfl ⟨q1, x, rfl, (xU.ao (((ah.ak fT).trans (ah.row _ _ _ (Rl _ _))).trans (ah.row _ _ _ (Rk _ _)))).cX (fun _ => .inl), (um.ao (((ah.ak fT).trans (ah.row _ _ _ (Rl _ _))).trans (ah.row _ _ _ (Rk _ _)))).N3, below_setRow (below_setRow jh.below oM _) oM _⟩
theorem E5 (h : ic X w q s g.pg) (hR : cf X w x g) (ho : bD g s) (hX : ∀ b, X b → b < w.heap.size) (nl : s.af = g.aF) (mX : s.bt = false → fX (s.seq + 1) s.aj.length = 0) (he : aO s g = 0) :
 Calls prog 34 #[q.v s, x.v g] w fun e w' => ∃ (q' : Qv) (y : Rc), e = .returned (.tuple #[q'.v (aA s g).1, y.v (aA s g).2.1, .int .i64 (aA s g).2.2]) ∧ ic X w' q' (aA s g).1 g.pg ∧ cf X w' y (aA s g).2.1 ∧ bW w w' := by
 have nP := CT he
 obtain ⟨NC, VA⟩ := ex (aA s g)
 rw [VA] at nP ⊢
 have jH := gI he
 have cB := qp ho he
 have Sf := mx (f := g) ho
 have SB : (aZ s g).af = false := by
  obtain ⟨a, b, _⟩ := jE he
  unfold aZ
  rw [iP he]
  have e : (bj (ga s g) g).af = (ga s g).af := (ik (ga s g) g).2.2.2.2.2.2.2.2
  show (bj (ga s g) g).af = false
  rw [e]
  unfold ga
  rw [a, b]
  rfl
 obtain ⟨W, hW⟩ := ex ((((w.alloc (.cells (aS q s) 43)).alloc (.cells (aX x g) 35)).alloc (.cells qt 43)).alloc (.cells Bh 35))
 have HY := iD (Hy.new hW.symm ⟨_, rfl, rfl⟩ ⟨_, rfl, rfl⟩)
 have hsz := HY.lt
 have DF := iD (Aw (h.xn hX HY.below) (hR.xn HY.below) ho (XN.lt hX hsz) nl mX)
 obtain ⟨⟨s1, k1⟩, dB⟩ := ex (aZ s g, aO s g)
 have JS : aZ s g = s1 := congrArg Prod.fst dB
 have LA : aO s g = k1 := congrArg Prod.snd dB
 clear dB
 rw [JS, LA] at DF
 rw [JS] at nP jH cB Sf SB
 rw [LA] at he
 subst he
 have gj := iD HY.below
 have Bi := iD hR
 have MG := iD hX
 have pf := iD nP
 have HBF := iD jH.1
 have HLB := iD cB
 have XZ := iD Sf
 have Ys := iD SB
 unfold Qv.v Rc.v
 clear h hR ho hX nl mX JS LA hsz nP jH cB Sf SB VA
 go_enter func34, ntmps34
 go_upto_region 1 with (fail)
 try rw [hW]
 clear hW
 refine wp_region_list ?_
 refine wpList_load_row rfl 43 _ rfl w.heap.size rfl 43 (aS q s) (0, 0) _ HY.h underlying43 rfl aP ?_
 refine wpList_load_row rfl 35 _ rfl (w.heap.size + 1) rfl 35 (aX x g) (0, 0) _ HY.h4 underlying35 rfl dK ?_
 simp only [nm]
 refine iL (n := 83) (al := [.agg (aS q s), .agg (aX x g)]) rfl _ _ rfl (by rfl) GB ?_
 refine DF.mono ?_
 rintro e w1 ⟨q1, rfl, iE, dB⟩
 refine ⟨_, rfl, ?_⟩
 simp only [nm]
 have UE := iD (HY.ab dB)
 have uX := iD iE
 have Df := iD (Bi.xn (gj.trans (dB.mono gj.size)))
 clear iE dB
 refine wV (.tuple #[.agg (aS q1 s1), .int .i64 0]) ?_
 refine wV (.agg (aS q1 s1)) ?_
 refine wV (.int .i64 0) ?_
 refine wpList_store_row rfl 43 _ _ rfl w.heap.size (aS q1 s1) rfl rfl 43 (aS q s) UE.h aP rfl (iv ..) ?_
 have No := iD (UE.put (aS q1 s1))
 have xU := iD (uX.ao (ah.row w1 w.heap.size (aS q1 s1) (ve _ _)))
 have um := iD (Df.ao (ah.row w1 w.heap.size (aS q1 s1) (ve X w.heap.size)))
 generalize w1.setRow w.heap.size (aS q1 s1) = W2 at No xU um ⊢
 have HC : Hid (Yy X w W2 NC 10 q1 s1 x g g.pg) := ⟨No, xU, um, XZ, Ys, HBF, HLB, pf, rfl⟩
 clear UE uX Df No xU um XZ Ys HBF HLB pf
 obtain ⟨p, hp⟩ := ex g.pg
 rw [hp] at HC
 go_upto_region 4 with (fail)
 go_loopw [7, 8] (fun _ _ wr => ∃ n q' s' y' f', Yy X w wr NC n q' s' y' f' p) (fun _ _ wr => K4 w.heap.size wr)
 case atStart => exact ⟨_, _, _, _, _, HC⟩
 case round =>
  obtain ⟨n, q2, s2, y2, f2, hC⟩ := hrel
  have uo := iD hC
  have HLF := iD hC.lf
  have hn : 1 ≤ n := Nat.le_trans (qN hC.ok hC.b hC.u) hC.left
  obtain ⟨m, rfl⟩ : ∃ m, n = m + 1 := ⟨n - 1, oM⟩
  have eW := iD (Kr (by rw [hC.pg]; exact hC.rv) hC.rf hC.ok (XN.lt MG hC.hy.lt))
  rw [hC.pg] at eW
  have pf := iD hC.run
  rw [fq] at pf
  have J4 := iD (sK hC.ok hC.b hC.u)
  have gV := iD (mc hC.ok)
  have jk : Hid ((aI s2 f2).2.1.pg = p) := (NQ s2 f2).trans hC.pg
  have HMB : Hid (iR s2 ≤ m + 1) := hC.left
  obtain ⟨r, hr⟩ := ex (aI s2 f2)
  rw [hr] at eW pf J4 gV jk
  obtain ⟨s3, f3, rd, re⟩ := r
  have mD := iD hr
  simp only at eW pf J4 gV jk
  clear hr hC hn
  go_upto_region 5 with (fail)
  refine wp_region_list ?_
  refine wpList_load_row rfl 43 _ rfl w.heap.size rfl 43 (aS q2 s2) (0, 0) _ uo.hy.h underlying43 rfl aP ?_
  refine wpList_load_row rfl 35 _ rfl (w.heap.size + 1) rfl 35 (aX y2 f2) (0, 0) _ uo.hy.h4 underlying35 rfl dK ?_
  simp only [nm]
  refine iL (n := 84) (al := [.agg (aS q2 s2), .agg (aX y2 f2)]) rfl _ _ rfl (by rfl) OZ ?_
  refine eW.mono ?_
  rintro e w9 ⟨q3, y3, rfl, P9, hf9, lS⟩
  refine ⟨_, rfl, ?_⟩
  simp only [nm]
  have iG := iD (uo.hy.ab lS)
  have jY := iD P9
  have HF9 := iD hf9
  clear P9 hf9 lS
  refine wV (.tuple #[.agg (aS q3 s3), .agg (aX y3 f3), .bool rd, .int .i64 re]) ?_
  refine wV (.agg (aS q3 s3)) ?_
  refine wV (.agg (aX y3 f3)) ?_
  refine wV (.bool rd) ?_
  refine wV (.int .i64 re) ?_
  refine wpList_store_row rfl 43 _ _ rfl w.heap.size (aS q3 s3) rfl rfl 43 (aS q2 s2) iG.h aP rfl (iv ..) ?_
  refine wpList_store_row rfl 35 _ _ rfl (w.heap.size + 1) (aX y3 f3) rfl rfl 35 (aX y2 f2) ((setRow_other _ _ _ _ oM).trans iG.h4) dK rfl (B3 ..) ?_
  have Zh := iD ((iG.put (aS q3 s3)).D3 (aX y3 f3))
  have Zl := iD (jY.ao ((ah.row w9 w.heap.size (aS q3 s3) (ve _ _)).trans (ah.row _ (w.heap.size + 1) (aX y3 f3) (Rm _ _))))
  have US := iD (HF9.ao ((ah.row w9 w.heap.size (aS q3 s3) (ve _ _)).trans (ah.row _ (w.heap.size + 1) (aX y3 f3) (Rm _ _))))
  generalize (w9.setRow w.heap.size (aS q3 s3)).setRow (w.heap.size + 1) (aX y3 f3) = WA at Zh Zl US ⊢
  clear iG jY HF9
  by_cases qc : rd = true
  ·subst qc
   have Fu : Hid (NC = (s3, f3, re)) := by rw [Hid, pf, iP (.inl rfl)]
   go_upto_region 7 with (fail)
   have jh := iD ((Zh).ab fT)
   obtain ⟨gY, iF, jV⟩ := jh.h8
   obtain ⟨KV, kd, Nl⟩ := jh.h9
   refine wp_region_held (S := fun w' => w'.heap[w.heap.size]? = some (.cells (aS q3 s3) 43 (0, 0)) ∧ w'.heap[w.heap.size + 1]? = some (.cells (aX y3 f3) 35 (0, 0))) (by kernel_rfl) ?_
   refine wpAnyH_take (i := 0) (v := .agg (aS q3 s3)) rfl (by kernel_rfl) (by kernel_rfl) (by kernel_rfl) (fun _ _ _ h => h) ?_ ⟨jh.h, jh.h4⟩ ?_
   ·refine bF ?_ 43 _ rfl w.heap.size rfl 43 _ (0, 0) _ (fun _ h => h.1) underlying43 rfl aP
    rfl
   change wpAnyH _ _ _ _ _ _ _ (Act.put _ (some 33) _) _
   simp only [nm]
   refine wpAnyH_take (i := 1) (v := .agg (aX y3 f3)) rfl (by kernel_rfl) (by kernel_rfl) (by kernel_rfl) (fun _ _ _ h => h) ?_ ⟨jh.h, jh.h4⟩ ?_
   ·refine bF ?_ 35 _ rfl (w.heap.size + 1) rfl 35 _ (0, 0) _ (fun _ h => h.2) underlying35 rfl dK
    rfl
   change wpAnyH _ _ _ _ _ _ _ (Act.put _ (some 34) _) _
   simp only [nm]
   refine wpAnyH_take (i := 2) (v := .int .i64 re) rfl (by kernel_rfl) (by kernel_rfl) (by kernel_rfl) (fun _ _ _ h => h) ?_ ⟨jh.h, jh.h4⟩ ?_
   ·refine lM (x := .tmp 7) ?_ rfl
    rfl
   change wpAnyH _ _ _ _ _ _ _ (Act.put _ (some 35) _) _
   simp only [nm]
   refine cR (i := 3) (by kernel_rfl) rfl (by rfl) rfl 43 _ _ rfl (w.heap.size + 2) (aS q3 s3) gY rfl rfl 43 jV aP iF (iv ..) ⟨(setRow_other _ _ _ _ oM).trans jh.h, (setRow_other _ _ _ _ oM).trans jh.h4⟩ ?_
   refine cR (i := 4) (by kernel_rfl) rfl (by rfl) rfl 35 _ _ rfl (w.heap.size + 3) (aX y3 f3) KV rfl rfl 35 ((setRow_other _ _ _ _ oM).trans Nl) dK kd (B3 ..) ⟨(setRow_other _ _ _ _ oM).trans ((setRow_other _ _ _ _ oM).trans jh.h), (setRow_other _ _ _ _ oM).trans ((setRow_other _ _ _ _ oM).trans jh.h4)⟩ ?_
   refine wpAnyH_take (i := 5) (v := .int .i64 re) rfl (by kernel_rfl) (by kernel_rfl) (by kernel_rfl) (fun _ _ _ h => h) ?_ ⟨(setRow_other _ _ _ _ oM).trans ((setRow_other _ _ _ _ oM).trans jh.h), (setRow_other _ _ _ _ oM).trans ((setRow_other _ _ _ _ oM).trans jh.h4)⟩ ?_
   ·refine jK (x := .tmp 35) ?_ rfl
    rfl
   change wpAnyH _ _ _ _ _ _ _ (Act.put _ (some 6) _) _
   simp only [nm]
   refine wD ?_
   go_wp2
   (try simp only [Exit.inBlock, Exit.then])
   refine bodyPost_ret (v := .tuple #[.agg (aS q3 s3), .agg (aX y3 f3), .int .i64 re]) (lP (p := 4) (p' := 5) (u := 6) rfl _ _ (w.heap.size + 2) (w.heap.size + 3) 43 35 (aS q3 s3) (aX y3 f3) _ _ rfl rfl ((setRow_other _ _ _ _ oM).trans (setRow_heap _ _ _ _ _ _ jV)) (setRow_heap _ _ _ _ _ _ ((setRow_other _ _ _ _ oM).trans Nl)) underlying43 rfl aP underlying35 rfl dK) rfl ⟨q3, y3, by rw [Fu], by rw [Fu]; exact (Zl.ao (((ah.ak fT).trans (ah.row _ _ _ (Rl _ _))).trans (ah.row _ _ _ (Rk _ _)))).cX (fun _ => .inl), by rw [Fu]; exact (US.ao (((ah.ak fT).trans (ah.row _ _ _ (Rl _ _))).trans (ah.row _ _ _ (Rk _ _)))).N3, below_setRow (below_setRow jh.below oM _) oM _⟩
  have hdn' : rd = false := by simpa using qc
  subst hdn'
  by_cases Nc : re = 0
  ·subst Nc
   have ya := iD (J4 rfl rfl)
   have Rg : Hid (Yy X w WA NC m q3 s3 y3 f3 p) := ⟨Zh.out, Zl.out, US.out, gV.out, ya.out.2.2, ya.out.2.1, by have := ya.out.1; have := HMB.out; omega, by rw [pf.out, iN (by simp)], jk.out⟩
   have FC := iD Rg.lf
   go_wp2
   go_roundw
   case rel => exact ⟨_, _, _, _, _, Rg⟩
   case measure =>
    rw [FC, HLF]
    have := ya.out.1
    have h1 := qN uo.ok uo.b uo.u
    omega
  have Fu : Hid (NC = (s3, f3, re)) := by rw [Hid, pf, iP (.inr Nc)]
  have abT : (re != 0) = true := by simpa using Nc
  clear Nc
  go_upto_region 7 with (fail)
  have jh := iD ((Zh).ab fT)
  obtain ⟨gY, iF, jV⟩ := jh.h8
  obtain ⟨KV, kd, Nl⟩ := jh.h9
  refine wp_region_held (S := fun w' => w'.heap[w.heap.size]? = some (.cells (aS q3 s3) 43 (0, 0)) ∧ w'.heap[w.heap.size + 1]? = some (.cells (aX y3 f3) 35 (0, 0))) (by kernel_rfl) ?_
  refine wpAnyH_take (i := 0) (v := .agg (aS q3 s3)) rfl (by kernel_rfl) (by kernel_rfl) (by kernel_rfl) (fun _ _ _ h => h) ?_ ⟨jh.h, jh.h4⟩ ?_
  ·refine bF ?_ 43 _ rfl w.heap.size rfl 43 _ (0, 0) _ (fun _ h => h.1) underlying43 rfl aP
   rfl
  change wpAnyH _ _ _ _ _ _ _ (Act.put _ (some 33) _) _
  simp only [nm]
  refine wpAnyH_take (i := 1) (v := .agg (aX y3 f3)) rfl (by kernel_rfl) (by kernel_rfl) (by kernel_rfl) (fun _ _ _ h => h) ?_ ⟨jh.h, jh.h4⟩ ?_
  ·refine bF ?_ 35 _ rfl (w.heap.size + 1) rfl 35 _ (0, 0) _ (fun _ h => h.2) underlying35 rfl dK
   rfl
  change wpAnyH _ _ _ _ _ _ _ (Act.put _ (some 34) _) _
  simp only [nm]
  refine wpAnyH_take (i := 2) (v := .int .i64 re) rfl (by kernel_rfl) (by kernel_rfl) (by kernel_rfl) (fun _ _ _ h => h) ?_ ⟨jh.h, jh.h4⟩ ?_
  ·refine lM (x := .tmp 7) ?_ rfl
   rfl
  change wpAnyH _ _ _ _ _ _ _ (Act.put _ (some 35) _) _
  simp only [nm]
  refine cR (i := 3) (by kernel_rfl) rfl (by rfl) rfl 43 _ _ rfl (w.heap.size + 2) (aS q3 s3) gY rfl rfl 43 jV aP iF (iv ..) ⟨(setRow_other _ _ _ _ oM).trans jh.h, (setRow_other _ _ _ _ oM).trans jh.h4⟩ ?_
  refine cR (i := 4) (by kernel_rfl) rfl (by rfl) rfl 35 _ _ rfl (w.heap.size + 3) (aX y3 f3) KV rfl rfl 35 ((setRow_other _ _ _ _ oM).trans Nl) dK kd (B3 ..) ⟨(setRow_other _ _ _ _ oM).trans ((setRow_other _ _ _ _ oM).trans jh.h), (setRow_other _ _ _ _ oM).trans ((setRow_other _ _ _ _ oM).trans jh.h4)⟩ ?_
  refine wpAnyH_take (i := 5) (v := .int .i64 re) rfl (by kernel_rfl) (by kernel_rfl) (by kernel_rfl) (fun _ _ _ h => h) ?_ ⟨(setRow_other _ _ _ _ oM).trans ((setRow_other _ _ _ _ oM).trans jh.h), (setRow_other _ _ _ _ oM).trans ((setRow_other _ _ _ _ oM).trans jh.h4)⟩ ?_
  ·refine jK (x := .tmp 35) ?_ rfl
   rfl
  change wpAnyH _ _ _ _ _ _ _ (Act.put _ (some 6) _) _
  simp only [nm]
  refine wD ?_
  go_wp2
  (try simp only [Exit.inBlock, Exit.then])
  refine bodyPost_ret (v := .tuple #[.agg (aS q3 s3), .agg (aX y3 f3), .int .i64 re]) (lP (p := 4) (p' := 5) (u := 6) rfl _ _ (w.heap.size + 2) (w.heap.size + 3) 43 35 (aS q3 s3) (aX y3 f3) _ _ rfl rfl ((setRow_other _ _ _ _ oM).trans (setRow_heap _ _ _ _ _ _ jV)) (setRow_heap _ _ _ _ _ _ ((setRow_other _ _ _ _ oM).trans Nl)) underlying43 rfl aP underlying35 rfl dK) rfl ⟨q3, y3, by rw [Fu], by rw [Fu]; exact (Zl.ao (((ah.ak fT).trans (ah.row _ _ _ (Rl _ _))).trans (ah.row _ _ _ (Rk _ _)))).cX (fun _ => .inl), by rw [Fu]; exact (US.ao (((ah.ak fT).trans (ah.row _ _ _ (Rl _ _))).trans (ah.row _ _ _ (Rk _ _)))).N3, below_setRow (below_setRow jh.below oM _) oM _⟩
theorem CR (h : ic X w q s g.pg) (hR : cf X w x g) (ho : bD g s) (hX : ∀ b, X b → b < w.heap.size) (nl : s.af = g.aF) (mX : s.bt = false → fX (s.seq + 1) s.aj.length = 0) :
 Calls prog 34 #[q.v s, x.v g] w fun e w' => ∃ (q' : Qv) (y : Rc), e = .returned (.tuple #[q'.v (aA s g).1, y.v (aA s g).2.1, .int .i64 (aA s g).2.2]) ∧ ic X w' q' (aA s g).1 g.pg ∧ cf X w' y (aA s g).2.1 ∧ bW w w' := by
 by_cases he : aO s g = 0
 ·exact E5 h hR ho hX nl mX he
 exact E4 h hR ho hX nl mX he
theorem yX (h : f.up) {B : Nat} (hB : B < f.aq.length) : (aT f (B : Int)).2 = 0 ∧ (aT f (B : Int)).1.up ∧ (aT f (B : Int)).1.pg = f.pg ∧ (aT f (B : Int)).1.aq.length = f.aq.length ∧
 (aT f (B : Int)).1.az = f.az ∧ ∀ x, aB (aT f (B : Int)).1 x = if B * f.pg ≤ x ∧ x < B * f.pg + f.pg then cM else aB f x := by
 have hp := nY h.ok h.dn hB
 have hk := kr (f := f) (block := (B : Int)) h.ok
 have key : (aT f (B : Int)).2 = 0 ∧ (aT f (B : Int)).1.be = -1 ∧ (aT f (B : Int)).1.az = f.az := by
  unfold aT
  rw [iN (by rw [h.dn]; decide), iN oM, oP h.fu, iN (by simp)]
  exact ⟨rfl, h.fu, rfl⟩
 rcases hp.ok with ⟨c1, c2, c3⟩ | ⟨c1, _, _⟩
 ·exact ⟨c1, ⟨hk, c2, key.2.1⟩, hp.pg, by rw [hp.aq, dz], key.2.2, c3⟩
 rw [key.1] at c1; cases c1
theorem BM (h : f.up) {P : Nat} (hP : P < f.aq.length * f.pg) (hl : b.length = 64) (hb : Bytes b) (cB : aB f P = cM) : (bz f (P : Int) b).2 = 0 ∧ (bz f (P : Int) b).1.up ∧ (bz f (P : Int) b).1.pg = f.pg ∧
 (bz f (P : Int) b).1.aq.length = f.aq.length ∧ (bz f (P : Int) b).1.az = f.az ∧ ∀ x, aB (bz f (P : Int) b).1 x = if x = P then b else aB f x := by
 have hp := pR h.ok h.dn hP hl cB
 have hk := nK (f := f) (page := (P : Int)) h.ok hb
 have sU : ch (aB f P) = true := (iX (by rw [cB, qn])).2 cB
 have h0 : lZ f (P : Int) = 0 := by unfold lZ; rw [h.dn, iN (by decide), iN oM]
 have key : (bz f (P : Int) b).2 = 0 ∧ (bz f (P : Int) b).1.be = -1 ∧ (bz f (P : Int) b).1.az = f.az := by
  unfold bz
  rw [iN (by rw [h0]; decide), iN oM, Int.toNat_natCast, iN (by rw [sU]; decide), oP h.fu, iN (by simp)]
  exact ⟨rfl, h.fu, rfl⟩
 rcases hp.ok with ⟨c1, c2, c3⟩ | ⟨c1, _, _⟩
 ·exact ⟨c1, ⟨hk, c2, key.2.1⟩, hp.pg, by rw [hp.aq], key.2.2, c3⟩
 rw [key.1] at c1; cases c1
def eg (f : Fl) (a : Nat) : Nat → Fl
 | 0 => f
 | n + 1 => (aT (eg f a n) ((a + n : Nat) : Int)).1
structure abC (f g : Fl) (a n : Nat) : Prop where
 up : g.up
 pg : g.pg = f.pg
 wl : g.aq.length = f.aq.length
 pk : g.az = f.az
 page : ∀ x, aB g x = if a * f.pg ≤ x ∧ x < (a + n) * f.pg then cM else aB f x
theorem mv {f : Fl} (h : f.up) {a : Nat} : ∀ {n : Nat}, a + n ≤ f.aq.length → abC f (eg f a n) a n
 | 0, _ => ⟨h, rfl, rfl, rfl, fun x => by rw [iN (by rw [Nat.add_zero]; omega)]; rfl⟩
 | n + 1, hn => by
  have ih := mv h (a := a) (n := n) oM
  obtain ⟨e0, e1, e2, e3, e4, e5⟩ := yX ih.up (B := a + n) (by rw [ih.wl]; omega)
  refine ⟨e1, e2.trans ih.pg, e3.trans ih.wl, e4.trans ih.pk, fun x => ?_⟩
  show aB (aT (eg f a n) ((a + n : Nat) : Int)).1 x = _
  rw [e5, ih.page, ih.pg]
  have e : (a + (n + 1)) * f.pg = (a + n) * f.pg + f.pg := by rw [← Nat.add_assoc, Nat.add_mul (a + n), Nat.one_mul]
  have e' : a * f.pg ≤ (a + n) * f.pg := Nat.mul_le_mul_right _ oM
  rw [e]
  by_cases hx : (a + n) * f.pg ≤ x ∧ x < (a + n) * f.pg + f.pg
  ·rw [iP hx, iP oM]
  rw [iN hx]
  by_cases hy : a * f.pg ≤ x ∧ x < (a + n) * f.pg
  ·rw [iP hy, iP oM]
  rw [iN hy, iN oM]
theorem ud (h : f.up) (hn : a + n ≤ f.aq.length) (hm : m < n) : (aT (eg f a m) ((a + m : Nat) : Int)).2 = 0 := by
 have ih := mv h (a := a) (n := m) oM
 exact (yX ih.up (B := a + m) (by rw [ih.wl]; omega)).1
def gg (b : List Int) : List Int := b ++ List.replicate (64 - b.length) 255
def eQ (img : List Int) (k : Nat) : List Int := (img.drop (64 * k)).take 64
def ew (n : Nat) : Nat := (n + 63) / 64
theorem eR (h : b.length ≤ 64) : (gg b).length = 64 := by unfold gg; rw [List.length_append, List.length_replicate]; omega
theorem kx (h : Bytes b) : Bytes (gg b) := by
 intro x hx
 unfold gg at hx
 rcases List.mem_append.1 hx with hx | hx
 ·exact h x hx
 rw [List.mem_replicate] at hx
 omega
theorem jv (img : List Int) (k : Nat) : (eQ img k).length = min 64 (img.length - 64 * k) := by unfold eQ; rw [List.length_take, List.length_drop]
theorem kl (h : Bytes img) (k : Nat) : Bytes (eQ img k) := fun x hx => h x (List.mem_of_mem_drop (List.mem_of_mem_take hx))
def iO (f : Fl) (a : Nat) (img : List Int) : Nat → Fl
 | 0 => f
 | n + 1 => (bz (iO f a img n) ((a + n : Nat) : Int) (gg (eQ img n))).1
structure Xn (f g : Fl) (a : Nat) (img : List Int) (n : Nat) : Prop where
 up : g.up
 pg : g.pg = f.pg
 wl : g.aq.length = f.aq.length
 pk : g.az = f.az
 page : ∀ x, aB g x = if a ≤ x ∧ x < a + n then gg (eQ img (x - a)) else aB f x
theorem qH {f : Fl} (h : f.up) {a : Nat} {img : List Int} (hi : Bytes img) : ∀ {n : Nat}, a + n ≤ f.aq.length * f.pg → (∀ x, a ≤ x → x < a + n → aB f x = cM) → Xn f (iO f a img n) a img n
 | 0, _, _ => ⟨h, rfl, rfl, rfl, fun x => by rw [iN oM]; rfl⟩
 | n + 1, hn, hb => by
  have ih := qH h hi (a := a) (n := n) oM (fun x h1 h2 => hb x h1 oM)
  have cB : aB (iO f a img n) (a + n) = cM := by rw [ih.page, iN oM]; exact hb _ oM oM
  obtain ⟨e0, e1, e2, e3, e4, e5⟩ := BM ih.up (P := a + n) (by rw [ih.wl, ih.pg]; omega) (eR (by rw [jv]; omega)) (kx (kl hi n)) cB
  refine ⟨e1, e2.trans ih.pg, e3.trans ih.wl, e4.trans ih.pk, fun x => ?_⟩
  show aB (bz (iO f a img n) ((a + n : Nat) : Int) (gg (eQ img n))).1 x = _
  rw [e5, ih.page]
  by_cases hx : x = a + n
  ·rw [iP hx, iP oM, hx, show a + n - a = n by omega]
  rw [iN hx]
  by_cases hy : a ≤ x ∧ x < a + n
  ·rw [iP hy, iP oM]
  rw [iN hy, iN oM]
theorem vG (h : f.up) (hi : Bytes img) (hn : a + n ≤ f.aq.length * f.pg) (hb : ∀ x, a ≤ x → x < a + n → aB f x = cM) (hm : m < n) : (bz (iO f a img m) ((a + m : Nat) : Int) (gg (eQ img m))).2 = 0 := by
 have ih := qH h hi (a := a) (n := m) oM (fun x h1 h2 => hb x h1 oM)
 have cB : aB (iO f a img m) (a + m) = cM := by rw [ih.page, iN oM]; exact hb _ oM oM
 exact (BM ih.up (P := a + m) (by rw [ih.wl, ih.pg]; omega) (eR (by rw [jv]; omega)) (kx (kl hi m)) cB).1
def aH (n : Nat) : List eB :=
 [⟨0, 1, 0⟩, ⟨0, 2, 2⟩, ⟨0, 3, 0⟩, ⟨0, 1073741824, 0⟩, ⟨0, n, 0⟩, ⟨0, 4294967295, 0⟩, ⟨0, 1073741824, 0⟩, ⟨0, n, 0⟩, ⟨0, 4294967295, 0⟩]
theorem iB (h : n ≤ 1000000) : ∀ p ∈ aH n, p.ok := by
 intro p hp
 simp only [aH, List.mem_cons, List.not_mem_nil, or_false] at hp
 rcases hp with rfl | rfl | rfl | rfl | rfl | rfl | rfl | rfl | rfl <;> exact ⟨by unfold dH; simp only; omega, by unfold dH; simp only; omega, by unfold dH; simp only; omega⟩
theorem ia (n : Nat) : (aH n).any fA = false := by
 simp only [aH, fA, List.any_cons, List.any_nil, Bool.or_false, Bool.or_eq_false_iff, decide_eq_false_iff_not]
 omega
def aN (f : Fl) (aa : Nat) : Nat := (aa - 2) / 2 * f.pg * 64
def eC (f : Fl) (first aa : Int) : Int :=
 if f.aF = true then 20 else if aa % 2 ≠ 0 ∨ aa < 4 ∨ 18 < aa then 3 else if first < 0 ∨ (f.aq.length : Int) - aa < first then 10 else if f.pg < 2 then 11 else 0
theorem mj {first : Int} (h : eC f first aa = 0) : f.aF = false ∧ ∃ a k : Nat, first = a ∧ aa = ((2 * k + 2 : Nat) : Int) ∧ 1 ≤ k ∧ k ≤ 8 ∧ a + (2 * k + 2) ≤ f.aq.length ∧ 2 ≤ f.pg := by
 unfold eC at h
 split at h
 ·cases h
 rename_i h1
 split at h
 ·cases h
 rename_i h2
 split at h
 ·cases h
 rename_i h3
 split at h
 ·cases h
 rename_i h4
 refine ⟨by simpa using h1, first.toNat, (aa.toNat - 2) / 2, oM, ?_, ?_, ?_, ?_, oM⟩ <;> omega
theorem mi {first : Int} (h : eC f first aa = 0) (n : Nat) : cJ f first ((2 : Nat) : Int) (aH n) = 0 := by
 obtain ⟨hd, a, k, rfl, rfl, k1, k8, hw, hp⟩ := mj h
 unfold cJ
 rw [iN (by rw [hd]; decide), iN oM, iN oM, iN (by simp [aH]), iN (by have := ia n; unfold fA at this; rw [this]; decide), iN (by simp only [aH, List.length_cons, List.length_nil, cO]; omega)]
def xQ (f : Fl) (first n : Nat) (v m c : Int) : St := aV (aV (aV (aJ f first 2 (aH n)) 3 v) 4 m) 5 c
def eD (f : Fl) (first aa : Nat) (img : List Int) : Fl := iO (eg f first aa) ((first + 2) * f.pg) img (ew img.length)
def iU (f : Fl) (first aa : Nat) (v c : Int) (img : List Int) : St × Fl × Int :=
 aA (xQ (eD f first aa img) first (aN f aa) v img.length c) (eD f first aa img)
theorem ej.EJ {fi bl : Nat} {sp : List eB} (hf : f.ok) (cB : ∀ x, fi * f.pg ≤ x → x < (fi + bl) * f.pg → aB f x = cM) (hs : ∀ p ∈ sp, p.ok) (he : cJ f fi bl sp = 0) :
 ej f (aJ f fi bl sp) (sp.map eB.df) none ∧ dU f (aJ f fi bl sp) ∧ (aJ f fi bl sp).an = sp.map eB.df ∧ (aJ f fi bl sp).aj = sp.map eB.df ∧ (aJ f fi bl sp).bt = false ∧ (aJ f fi bl sp).av = -1 ∧ (aJ f fi bl sp).block = 0 ∧ (aJ f fi bl sp).ax = sp ∧ (aJ f fi bl sp).first = fi ∧ (aJ f fi bl sp).aa = bl ∧ (aJ f fi bl sp).seq = 0 ∧ (aJ f fi bl sp).af = false := by
 obtain ⟨hd, b2, Zf, f0, f1, n1, KZ, fh, vS⟩ := jn he
 have dc := kz hs he
 obtain ⟨s0, fp⟩ := ex (dM fi bl sp)
 have LB : ∀ b j, b < s0.aa → j < bm s0 f → eU f s0 b j = none := by
  intro b j h1 h2
  have hk : s0.k = cO sp.length := by rw [← fp]; rfl
  have xv := jZ n1
  have hT : bm s0 f = f.pg / cO sp.length := by rw [← fp]; rfl
  have OG : s0.aa = bl := by rw [← fp]; rfl
  rw [OG] at h1
  rw [hT] at h2
  have h3 : (j + 1) * cO sp.length ≤ f.pg := by
   have := Nat.mul_le_mul_right (cO sp.length) (show j + 1 ≤ f.pg / cO sp.length by omega)
   exact Nat.le_trans this (Nat.div_mul_le_self _ _)
  rw [Nat.add_mul, Nat.one_mul] at h3
  have h4 : (fi + b + 1) * f.pg ≤ (fi + bl) * f.pg := Nat.mul_le_mul_right _ oM
  have h5 : fi * f.pg ≤ (fi + b) * f.pg := Nat.mul_le_mul_right _ oM
  rw [Nat.add_mul (fi + b), Nat.one_mul] at h4
  have hp : aG s0 f b j = (fi + b) * f.pg + j * cO sp.length := by unfold aG; rw [hk, ← fp]; rfl
  refine kv (i := 0) oM ?_
  rw [hp, cB _ oM oM]
  exact kV
 have hn : eY f s0 none := LB
 have gG := kB (f := f) (s0 := s0) (by rw [← fp]; rfl) hn
 simp only at gG
 have ht : aJ f fi bl sp = { s0 with aj := s0.an } := by
  unfold aJ
  rw [fp, show f.pg / cO sp.length = bm s0 f by rw [← fp]; rfl, show bl = s0.aa by rw [← fp]; rfl, gG]
 rw [ht] at dc ⊢
 have e1 : s0.av = -1 := by rw [← fp]; rfl
 have e2 : s0.an = sp.map eB.df := by rw [← fp]; rfl
 have e3 : s0.block = 0 := by rw [← fp]; rfl
 have e4 : s0.bt = false := by rw [← fp]; rfl
 have e5 : s0.af = false := by rw [← fp]; rfl
 have e6 : s0.first = fi := by rw [← fp]; rfl
 have e7 : s0.aa = bl := by rw [← fp]; rfl
 have e8 : s0.ax = sp := by rw [← fp]; rfl
 have e9 : s0.seq = 0 := by rw [← fp]; rfl
 have qh : fZ { s0 with aj := s0.an } = none := by unfold fZ; rw [iP e1]
 have Cl : dU f { s0 with aj := s0.an } := by
  refine ⟨hf, dc, hd, e5, fun x h1 h2 => ?_, ?_, fun _ => ⟨e9, e3, by simp only [e8]; exact e2⟩, by simp only [e8, e2]; exact tU fh, by simp only [e8, e2]; exact tU fh, fun e => by simp only [e4] at e; cases e⟩
  ·simp only [e6, e7] at h1 h2
   rw [cB x h1 h2]
   exact rC.blank
  rw [qh]
  exact hn.congr rfl rfl rfl (fun b j _ _ => dD rfl rfl rfl (fun _ _ => rfl))
 exact ⟨⟨e2, .inl ⟨Cl, by simp only [e4]; simp⟩⟩, Cl, e2, e2, e4, e1, e3, e8, e6, e7, e9, e5⟩
theorem Af (h : f.aF = false ∧ f.be = -1) (b : Int) : (aT f b).1.aF = false ∧ (aT f b).1.be = -1 := by
 unfold aT
 split
 ·exact h
 split
 ·exact h
 rw [oP h.2, iN (by simp)]
 exact h
theorem BN (h : f.aF = false ∧ f.be = -1) (p : Int) (b : List Int) : (bz f p b).1.aF = false ∧ (bz f p b).1.be = -1 := by
 unfold bz
 split
 ·exact h
 split
 ·exact h
 split
 ·exact h
 rw [oP h.2, iN (by simp)]
 exact h
theorem tF (h : f.aF = false ∧ f.be = -1) (s : St) : (aI s f).2.1.aF = false ∧ (aI s f).2.1.be = -1 := by
 have ho : (eV s f).1.aF = false ∧ (eV s f).1.be = -1 := by
  unfold eV
  split
  ·exact Af h _
  exact BN h _ _
 unfold aI
 split
 ·exact h
 split
 ·exact h
 split
 ·exact ho
 split
 ·exact ho
 exact ho
theorem vw : ∀ (n : Nat) {f : Fl} (s : St), f.aF = false ∧ f.be = -1 → (iZ n s f).2.1.aF = false ∧ (iZ n s f).2.1.be = -1
 | 0, f, s, h => h
 | n + 1, f, s, h => by
  rw [fq]
  split
  ·exact tF h s
  exact vw n _ (tF h s)
theorem xR (h : f.aF = false ∧ f.be = -1) (s : St) : (aA s f).2.1.aF = false ∧ (aA s f).2.1.be = -1 := by
 unfold aA
 split
 ·exact h
 exact vw _ _ h
theorem dU.I2 (h : dU f s) (hf : f.be = -1) (hb : s.bt = false) (hq : s.seq ≤ 1000000) (fR : s.aj ≠ s.an) :
 (aA s f).2.2 = 0 ∧ ej (aA s f).2.1 (aA s f).1 s.aj none ∧ (aA s f).2.1.up := by
 have dV := xR ⟨h.up, hf⟩ s
 have he : aO s f = 0 := by
  unfold aO
  rw [h.br, h.up, iN (by decide), hb, iN (by decide), iN fR]
  have h1 := h.ok.q1
  have h2 := h.ok.tl
  have h3 := h.ok.n1
  have h4 := h.ok.n2
  unfold fX
  rw [iN oM]
 have hs : ej f s s.an none := ⟨rfl, .inl ⟨h, by rw [hb]; rfl⟩⟩
 have hc : aA s f = iZ 10 (aZ s f) f := by unfold aA; rw [iN (by rw [he]; decide)]
 obtain ⟨e1, e2, e3, e4, _⟩ := gI he
 have hr := h.begin.run e1 (qp h.ok he)
 rw [← hc] at hr
 cases hr with
 | last b1 b2 b3 b4 b5 => exact ⟨b1, ⟨b4.trans e2, .inl ⟨b2, by rw [b3]; rfl⟩⟩, ⟨b2.wv, dV.1, dV.2⟩⟩
 | dead b1 b2 b3 b4 => rw [b2.dn] at dV; cases dV.1
theorem mN (hb : s.af = false) (gT : s.ax = aH n) {p : eB} {v : Int} (hp : (aH n)[i]? = some p) (hv : p.lo ≤ v ∧ v ≤ p.hi) : gf s (i : Int) v = 0 ∧ aV s (i : Int) v = { s with aj := s.aj.set i v } := by
 have hi := (List.getElem?_eq_some_iff.1 hp).1
 have he : gf s (i : Int) v = 0 := by
  unfold gf
  rw [iN (by rw [hb]; decide), iN (by rw [gT]; omega), Int.toNat_natCast, gT, hp, iN]
  unfold iy
  simp only [Option.getD_some, decide_eq_false_iff_not, Classical.not_not]
  exact hv
 refine ⟨he, ?_⟩
 unfold aV
 rw [iP he, Int.toNat_natCast]
theorem ib (h : f.up) (hw : first + (2 * k + 2) ≤ f.aq.length) (hk : 1 ≤ k) (hi : Bytes img) (h2 : img.length ≤ aN f (2 * k + 2)) :
 (eD f first (2 * k + 2) img).up ∧ (eD f first (2 * k + 2) img).pg = f.pg ∧ (eD f first (2 * k + 2) img).aq.length = f.aq.length ∧ (eD f first (2 * k + 2) img).az = f.az ∧
 (∀ x, aB (eD f first (2 * k + 2) img) x = if (first + 2) * f.pg ≤ x ∧ x < (first + 2) * f.pg + ew img.length then gg (eQ img (x - (first + 2) * f.pg)) else if first * f.pg ≤ x ∧ x < (first + (2 * k + 2)) * f.pg then cM else aB f x) ∧
 (first + 2) * f.pg + ew img.length ≤ (first + (k + 2)) * f.pg ∧ (first + (k + 2)) * f.pg ≤ f.aq.length * f.pg ∧ ∀ x, (first + 2) * f.pg ≤ x → x < (first + 2) * f.pg + ew img.length → aB (eg f first (2 * k + 2)) x = cM := by
 have he := mv h (a := first) (n := 2 * k + 2) hw
 have hn : ew img.length ≤ k * f.pg := by
  unfold aN at h2
  rw [show (2 * k + 2 - 2) / 2 = k by omega] at h2
  unfold ew
  omega
 have e1 : (first + (k + 2)) * f.pg = (first + 2) * f.pg + k * f.pg := by rw [← Nat.add_mul]; congr 1; omega
 have e2 : (first + (k + 2)) * f.pg ≤ (first + (2 * k + 2)) * f.pg := Nat.mul_le_mul_right _ oM
 have e3 : (first + (2 * k + 2)) * f.pg ≤ f.aq.length * f.pg := Nat.mul_le_mul_right _ hw
 have e4 : first * f.pg ≤ (first + 2) * f.pg := Nat.mul_le_mul_right _ oM
 have cB : ∀ x, (first + 2) * f.pg ≤ x → x < (first + 2) * f.pg + ew img.length → aB (eg f first (2 * k + 2)) x = cM := fun x h1 h2 => by rw [he.page, iP oM]
 have hp := qH he.up hi (a := (first + 2) * f.pg) (n := ew img.length) (by rw [he.wl, he.pg]; omega) cB
 refine ⟨hp.up, hp.pg.trans he.pg, hp.wl.trans he.wl, hp.pk.trans he.pk, fun x => ?_, oM, oM, cB⟩
 show aB (iO _ _ _ _) x = _
 rw [hp.page, he.page]
structure abA (f : Fl) (first k : Nat) (v c : Int) (img : List Int) : Prop where
 op : cJ (eD f first (2 * k + 2) img) first ((2 : Nat) : Int) (aH (aN f (2 * k + 2))) = 0
 ok : ∀ p ∈ aH (aN f (2 * k + 2)), p.ok
 s1 : gf (aJ (eD f first (2 * k + 2) img) first 2 (aH (aN f (2 * k + 2)))) 3 v = 0
 s2 : gf (aV (aJ (eD f first (2 * k + 2) img) first 2 (aH (aN f (2 * k + 2)))) 3 v) 4 img.length = 0
 s3 : gf (aV (aV (aJ (eD f first (2 * k + 2) img) first 2 (aH (aN f (2 * k + 2)))) 3 v) 4 img.length) 5 c = 0
 code : (iU f first (2 * k + 2) v c img).2.2 = 0
 sv : ej (iU f first (2 * k + 2) v c img).2.1 (iU f first (2 * k + 2) v c img).1 [0, 2, 0, v, img.length, c, 0, 0, 0] none
 up : (iU f first (2 * k + 2) v c img).2.1.up
 sp : (iU f first (2 * k + 2) v c img).1.ax = aH (aN f (2 * k + 2))
 fi : (iU f first (2 * k + 2) v c img).1.first = first
 bl : (iU f first (2 * k + 2) v c img).1.aa = 2
theorem ec (h : f.ok) (hk : k ≤ 8) : aN f (2 * k + 2) ≤ 8192 := by
 unfold aN
 rw [show (2 * k + 2 - 2) / 2 = k by omega]
 have h2 := h.p2
 have := Nat.mul_le_mul hk h2
 omega
theorem wy (h : f.up) (hk : 1 ≤ k) (jG : k ≤ 8) (hw : first + (2 * k + 2) ≤ f.aq.length) (hp : 2 ≤ f.pg) (hi : Bytes img) (h1 : 1 ≤ img.length) (h2 : img.length ≤ aN f (2 * k + 2)) 
 {v c : Int} (hv : 1 ≤ v ∧ v ≤ 1073741824) (hc : 0 ≤ c ∧ c ≤ 4294967295) : abA f first k v c img := by
 obtain ⟨g1, g2, g3, g4, g5, g6, g7, _⟩ := ib h hw hk hi h2
 have hsz := ec h.ok jG
 obtain ⟨N, hN⟩ := ex (aN f (2 * k + 2))
 obtain ⟨g, hg⟩ := ex (eD f first (2 * k + 2) img)
 obtain ⟨m, hm⟩ := ex img.length
 rw [hg] at g1 g2 g3 g4 g5
 rw [hN] at h2 hsz
 rw [hm] at h1 h2
 have pZ : eC g (first : Int) ((2 * k + 2 : Nat) : Int) = 0 := by
  unfold eC
  rw [iN (by rw [g1.dn]; decide), iN oM, iN (by rw [g3]; omega), iN (by rw [g2]; omega)]
 have oG := mi pZ N
 have dc := iB (n := N) oM
 have dV : ∀ x, first * g.pg ≤ x → x < (first + 2) * g.pg → aB g x = cM := fun x h1 h2 => by
  rw [g2] at h1 h2
  have : (first + 2) * f.pg ≤ (first + (2 * k + 2)) * f.pg := Nat.mul_le_mul_right _ oM
  rw [g5, iN oM, iP oM]
 obtain ⟨-, s2, s3, s4, s5, -, -, s8, s9, s10, YE, YD⟩ := ej.EJ g1.ok dV dc oG
 obtain ⟨s0, fp⟩ := ex (aJ g first 2 (aH N))
 rw [fp] at s2 s3 s4 s5 s8 s9 s10 YE YD
 obtain ⟨a1, a2⟩ := mN (n := N) YD s8 (i := 3) (v := v) rfl ⟨by simp only; omega, hv.2⟩
 obtain ⟨b1, b2⟩ := mN (n := N) (s := aV s0 ((3 : Nat) : Int) v) (by rw [a2]; exact YD) (by rw [a2]; exact s8) (i := 4) (v := (m : Int)) rfl ⟨by simp only; omega, by simp only; omega⟩
 obtain ⟨c1, c2⟩ := mN (n := N) (s := aV (aV s0 ((3 : Nat) : Int) v) ((4 : Nat) : Int) (m : Int)) (by rw [b2, a2]; exact YD) (by rw [b2, a2]; exact s8) (i := 5) (v := c) rfl ⟨hc.1, hc.2⟩
 have aab : dH v := by unfold dH; omega
 have Sj : dH (m : Int) := by unfold dH; omega
 have aaB : dH c := by unfold dH; omega
 have hL := ((s2.set (i := ((3 : Nat) : Int)) aab).set (i := ((4 : Nat) : Int)) Sj).set (i := ((5 : Nat) : Int)) aaB
 have VC : (aV (aV (aV s0 ((3 : Nat) : Int) v) ((4 : Nat) : Int) (m : Int)) ((5 : Nat) : Int) c).aj = [0, 2, 0, v, (m : Int), c, 0, 0, 0] := by
  rw [c2, b2, a2]
  simp only [s4]
  rfl
 have aad : (aV (aV (aV s0 ((3 : Nat) : Int) v) ((4 : Nat) : Int) (m : Int)) ((5 : Nat) : Int) c).an = [0, 2, 0, 0, 0, 0, 0, 0, 0] := by
  rw [c2, b2, a2]
  simp only [s3]
  rfl
 have nO : Same s0 (aV (aV (aV s0 ((3 : Nat) : Int) v) ((4 : Nat) : Int) (m : Int)) ((5 : Nat) : Int) c) := ((eG _ _ _).trans (eG _ _ _)).trans (eG _ _ _)
 obtain ⟨d1, d2, d3⟩ := hL.I2 g1.fu (by rw [c2, b2, a2]; exact s5) (by rw [c2, b2, a2]; simp only [YE]; omega) (by
  rw [VC, aad]
  intro e
  simp only [List.cons.injEq] at e
  omega)
 rw [VC] at d2
 have Es := nO.trans (rz (aV (aV (aV s0 ((3 : Nat) : Int) v) ((4 : Nat) : Int) (m : Int)) ((5 : Nat) : Int) c) g)
 have e : iU f first (2 * k + 2) v c img = aA (aV (aV (aV s0 ((3 : Nat) : Int) v) ((4 : Nat) : Int) (m : Int)) ((5 : Nat) : Int) c) g := by
  unfold iU xQ
  rw [hg, hN, fp, hm]
  rfl
 refine ⟨?_, ?_, ?_, ?_, ?_, ?_, ?_, ?_, ?_, ?_, ?_⟩
 ·rw [hg, hN]; exact oG
 ·rw [hN]; exact dc
 ·rw [hg, hN, fp]; exact a1
 ·rw [hg, hN, fp, hm]; exact b1
 ·rw [hg, hN, fp, hm]; exact c1
 ·rw [e]; exact d1
 ·rw [e, hm]; exact d2
 ·rw [e]; exact d3
 ·rw [e, hN]; exact Es.ax.trans s8
 ·rw [e]; exact Es.first.trans s9
 rw [e]; exact Es.aa.trans s10
theorem Ec {v : List Int} (h : ej f s v none) (hd : f.aF = false) (gT : s.ax = aH n) (lX : s.first = first) (cB : s.aa = 2) :
 cJ f first ((2 : Nat) : Int) (aH n) = 0 ∧ ej f (aJ f first 2 (aH n)) v none ∧ (aJ f first 2 (aH n)).an = v ∧ (aJ f first 2 (aH n)).ax = aH n ∧ (aJ f first 2 (aH n)).first = first ∧ (aJ f first 2 (aH n)).aa = 2 := by
 have hs : aR f = f := by unfold aR; rw [iN (by rw [hd]; decide)]
 obtain ⟨a1, a2, a3, a4⟩ := h.again (by rw [gT]; exact ia n)
 rw [hs, gT, lX, cB] at a1 a2 a3 a4
 have hv : (aJ f first 2 (aH n)).an = v := by
  rcases a3 with e | e
  ·exact e
  cases e
 rw [hv] at a2
 exact ⟨a1, a2, hv, a4.ax.trans gT, a4.first.trans lX, a4.aa.trans cB⟩
def tg (x : Int) : Int := if x % 2 = 1 then bits .xor .u32 (x / 2) 3988292384 else x / 2
def tf : Nat → Int → Int
 | 0, x => x
 | n + 1, x => tg (tf n x)
def U5 (c x : Int) : Int := tf 8 (bits .xor .u32 c x)
def oT (b : List Int) : Int := b.foldl U5 4294967295
def eS (b : List Int) : Int := bits .xor .u32 IntKind.u32.max (oT b)
def MB (x : Int) : Prop := 0 ≤ x ∧ x < 4294967296
theorem u32_xor (a b : Int) : MB (bits .xor .u32 a b) := by
 obtain ⟨z, hz⟩ : ∃ z, bits .xor .u32 a b = IntKind.u32.wrap z := ⟨_, rfl⟩
 rw [hz]
 have e : IntKind.u32.wrap z = z % 4294967296 := rfl
 rw [e]
 exact ⟨Int.emod_nonneg _ oM, Int.emod_lt_of_pos _ oM⟩
theorem tD (a : Int) (h : MB a) : bits .and .u32 a 1 = a % 2 := by
 obtain ⟨A, rfl⟩ := Int.eq_ofNat_of_zero_le h.1
 have h2 := h.2
 show IntKind.u32.wrap ((BitVec.ofInt 32 (A : Int) &&& BitVec.ofInt 32 1).toNat : Int) = _
 have e : (BitVec.ofInt 32 (1 : Int)).toNat = 1 := by decide
 have e2 : (BitVec.ofInt 32 (A : Int)).toNat = A := by
  rw [BitVec.ofInt_natCast, BitVec.toNat_ofNat]; exact Nat.mod_eq_of_lt oM
 rw [BitVec.toNat_and, e, Nat.and_one_is_mod, e2]
 show ((A % 2 : Nat) : Int) % 4294967296 = _
 omega
theorem Mh {x : Int} (h : MB x) : MB (tg x) := by
 unfold tg
 split
 ·exact u32_xor _ _
 unfold MB at *; omega
theorem wL : ∀ (n : Nat) {x : Int}, MB x → MB (tf n x)
 | 0, x, h => h
 | n + 1, x, h => Mh (wL n h)
theorem yl (b : List Int) (x : Int) : oT (b ++ [x]) = U5 (oT b) x := by unfold oT; rw [List.foldl_append]; rfl
theorem l6 (b : List Int) : MB (eS b) := u32_xor _ _
theorem nX (A : Option Addr) (n c : Nat) (b : List Int) (w : World) (hA : Rd w w.heap.size A (ag .u8 b)) (hn : b.length = n) (hb : Bytes b) (hm : n ≤ 140737488351232) :
 Calls prog 22 #[.slice A n c] w fun e w' => e = .returned (.int .u32 (eS b)) ∧ ∃ q, w' = w.drewN q := by
 have HN := iD hn
 have HB := iD hb
 have HA := iD hA
 clear hn hA hb
 go_enter func22, ntmps22
 go_wp2
 go_loopw [3, 8] (fun s i wr => ∃ k : Nat, k ≤ n ∧ i = .int .i64 k ∧ s = .int .u32 (oT (b.take k)) ∧ ∃ q, wr = w.drewN q) (fun _ i _ => n - (intOf i).toNat)
 case atStart => exact ⟨0, Nat.zero_le _, rfl, rfl, 0, rfl⟩
 case round =>
  obtain ⟨k, hk, rfl, rfl, q, rfl⟩ := hrel
  by_cases aW : k < n
  ·obtain ⟨x, hx⟩ := getElem?_of_lt (l := b) (k := k) (by rw [HN]; exact aW)
   obtain ⟨bb, off, rfl, cB, e0⟩ := HA.mo hx
   have qy := HB x (List.mem_of_getElem? hx)
   have HT : Hid (oT (b.take (k + 1)) = tf 8 (bits .xor .u32 (oT (b.take k)) x)) := by
    rw [Hid, bA b k x hx, yl]; rfl
   obtain ⟨C, hC⟩ := ex (oT (b.take k))
   rw [hC] at HT ⊢
   have yL : x % 4294967296 = x := Int.emod_eq_of_lt qy.1 oM
   obtain ⟨Y, hY⟩ := ex (bits .xor .u32 C x)
   have HU : Hid (MB Y) := by rw [← hY]; exact u32_xor _ _
   rw [hY] at HT
   clear hx hC
   go_wp2
   go_loopw [3, 16] (fun s i wr => ∃ j : Nat, j ≤ 8 ∧ i = .int .i64 j ∧ s = .int .u32 (tf j Y) ∧ ∃ q, wr = w.drewN q) (fun _ i _ => 8 - (intOf i).toNat)
   case atStart => exact ⟨0, Nat.zero_le _, rfl, rfl, _, rfl⟩
   case round =>
    obtain ⟨j, hj, rfl, rfl, q, rfl⟩ := hrel
    by_cases hj8 : j < 8
    ·have HJ := iD (wL j HU)
     have Ty : Hid (tf (j + 1) Y = tg (tf j Y)) := rfl
     obtain ⟨Z, hZ⟩ := ex (tf j Y)
     rw [hZ] at HJ Ty ⊢
     have ha := tD Z HJ
     obtain ⟨z1, z2⟩ := HJ
     have hd : Z / 2 % 4294967296 = Z / 2 := Int.emod_eq_of_lt oM oM
     by_cases ho : Z % 2 = 1
     ·have HI : Hid (tg Z = bits .xor .u32 (Z / 2) 3988292384) := by unfold tg; rw [Hid, iP ho]
      rw [ho] at ha
      clear hZ
      go_wp2
      go_roundw
      case rel => exact ⟨j + 1, oM, by go_num, by rw [Ty, HI], _, rfl⟩
      case measure => simp [intOf]; omega
     have HI : Hid (tg Z = Z / 2) := by unfold tg; rw [Hid, iN ho]
     have lR : Z % 2 = 0 := oM
     rw [lR] at ha
     clear hZ ho
     go_wp2
     go_roundw
     case rel => exact ⟨j + 1, oM, by go_num, by rw [Ty, HI], _, rfl⟩
     case measure => simp [intOf]; omega
    have hj9 : j = 8 := oM
    subst hj9
    go_wp2
    go_roundw
    case rel => exact ⟨k + 1, oM, by go_num, by rw [HT], _, rfl⟩
    case measure => simp [intOf]; omega
  have kg : k = n := oM
  subst kg
  have HE : Hid (b.take k = b) := List.take_of_length_le (by rw [HN]; omega)
  rw [HE]
  have HS : Hid (eS b = bits .xor .u32 IntKind.u32.max (oT b)) := rfl
  generalize oT b = C at *
  go_wp2
  go_ret
  exact ⟨by rw [HS]; rfl, _, rfl⟩
theorem nF (A : Option Addr) (n c : Nat) (b : List Int) (w : World) (hA : Rd w w.heap.size A (ag .u8 b)) (hn : b.length = n) (hb : Bytes b) (hm : n ≤ 140737488351232) :
 Calls prog 33 #[.slice A n c] w fun e w' => e = .returned (.int .u32 (eS b)) ∧ ∃ q, w' = w.drewN q := by
 have HN := iD hn
 have HB := iD hb
 have HA := iD hA
 clear hn hA hb
 go_enter func33, ntmps33
 go_wp2
 go_loopw [3, 8] (fun s i wr => ∃ k : Nat, k ≤ n ∧ i = .int .i64 k ∧ s = .int .u32 (oT (b.take k)) ∧ ∃ q, wr = w.drewN q) (fun _ i _ => n - (intOf i).toNat)
 case atStart => exact ⟨0, Nat.zero_le _, rfl, rfl, 0, rfl⟩
 case round =>
  obtain ⟨k, hk, rfl, rfl, q, rfl⟩ := hrel
  by_cases aW : k < n
  ·obtain ⟨x, hx⟩ := getElem?_of_lt (l := b) (k := k) (by rw [HN]; exact aW)
   obtain ⟨bb, off, rfl, cB, e0⟩ := HA.mo hx
   have qy := HB x (List.mem_of_getElem? hx)
   have HT : Hid (oT (b.take (k + 1)) = tf 8 (bits .xor .u32 (oT (b.take k)) x)) := by
    rw [Hid, bA b k x hx, yl]; rfl
   obtain ⟨C, hC⟩ := ex (oT (b.take k))
   rw [hC] at HT ⊢
   have yL : x % 4294967296 = x := Int.emod_eq_of_lt qy.1 oM
   obtain ⟨Y, hY⟩ := ex (bits .xor .u32 C x)
   have HU : Hid (MB Y) := by rw [← hY]; exact u32_xor _ _
   rw [hY] at HT
   clear hx hC
   go_wp2
   go_loopw [3, 16] (fun s i wr => ∃ j : Nat, j ≤ 8 ∧ i = .int .i64 j ∧ s = .int .u32 (tf j Y) ∧ ∃ q, wr = w.drewN q) (fun _ i _ => 8 - (intOf i).toNat)
   case atStart => exact ⟨0, Nat.zero_le _, rfl, rfl, _, rfl⟩
   case round =>
    obtain ⟨j, hj, rfl, rfl, q, rfl⟩ := hrel
    by_cases hj8 : j < 8
    ·have HJ := iD (wL j HU)
     have Ty : Hid (tf (j + 1) Y = tg (tf j Y)) := rfl
     obtain ⟨Z, hZ⟩ := ex (tf j Y)
     rw [hZ] at HJ Ty ⊢
     have ha := tD Z HJ
     obtain ⟨z1, z2⟩ := HJ
     have hd : Z / 2 % 4294967296 = Z / 2 := Int.emod_eq_of_lt oM oM
     by_cases ho : Z % 2 = 1
     ·have HI : Hid (tg Z = bits .xor .u32 (Z / 2) 3988292384) := by unfold tg; rw [Hid, iP ho]
      have hb : Z.tmod 2 = 1 := by rw [Int.tmod_eq_emod_of_nonneg z1]; exact ho
      clear hZ
      go_wp2
      go_roundw
      case rel => exact ⟨j + 1, oM, by go_num, by rw [Ty, HI], _, rfl⟩
      case measure => simp [intOf]; omega
     have HI : Hid (tg Z = Z / 2) := by unfold tg; rw [Hid, iN ho]
     have lR : Z % 2 = 0 := oM
     have hb : Z.tmod 2 = 0 := by rw [Int.tmod_eq_emod_of_nonneg z1]; exact lR
     clear hZ ho
     go_wp2
     go_roundw
     case rel => exact ⟨j + 1, oM, by go_num, by rw [Ty, HI], _, rfl⟩
     case measure => simp [intOf]; omega
    have hj9 : j = 8 := oM
    subst hj9
    go_wp2
    go_roundw
    case rel => exact ⟨k + 1, oM, by go_num, by rw [HT], _, rfl⟩
    case measure => simp [intOf]; omega
  have kg : k = n := oM
  subst kg
  have HE : Hid (b.take k = b) := List.take_of_length_le (by rw [HN]; omega)
  rw [HE]
  have HS : Hid (eS b = bits .xor .u32 IntKind.u32.max (oT b)) := rfl
  generalize oT b = C at *
  go_wp2
  go_ret
  exact ⟨by rw [HS]; rfl, _, rfl⟩
theorem l5 (n lo hi : Int) (w : World) : Calls prog 58 #[.int .i64 n, .int .i64 lo, .int .i64 hi] w fun e w' => e = .returned (.bool (decide (lo ≤ n ∧ n ≤ hi))) ∧ w = w' := by
 by_cases h1 : lo ≤ n
 ·have d1 : decide (lo ≤ n) = true := by simpa using h1
  by_cases h2 : n ≤ hi
  ·have d2 : decide (n ≤ hi) = true := by simpa using h2
   rw [decide_eq_true (show lo ≤ n ∧ n ≤ hi from ⟨h1, h2⟩)]
   go_enter func58, ntmps58
   go_wp2
   go_ret
   exact ⟨rfl, rfl⟩
  have d2 : decide (n ≤ hi) = false := by simpa using h2
  rw [decide_eq_false (show ¬ (lo ≤ n ∧ n ≤ hi) from fun h => h2 h.2)]
  go_enter func58, ntmps58
  go_wp2
  go_ret
  exact ⟨rfl, rfl⟩
 have d1 : decide (lo ≤ n) = false := by simpa using h1
 rw [decide_eq_false (show ¬ (lo ≤ n ∧ n ≤ hi) from fun h => h1 h.1)]
 go_enter func58, ntmps58
 go_wp2
 go_ret
 exact ⟨rfl, rfl⟩
def fg (s : Int) (n : Nat) : List Int := (List.range n).map fun (i : Nat) => IntKind.u8.wrap (wrap64 (wrap64 ((i : Int) * wrap64 (wrap64 (2 * s) + 7)) + wrap64 (s * 31)))
theorem dy (s : Int) (n : Nat) : (fg s n).length = n := by simp [fg]
theorem IZ (s : Int) (h : i < n) : (fg s n)[i]? = some (IntKind.u8.wrap (wrap64 (wrap64 ((i : Int) * wrap64 (wrap64 (2 * s) + 7)) + wrap64 (s * 31)))) := by simp [fg, h]
theorem jC (s : Int) (n : Nat) : Bytes (fg s n) := by
 intro x hx
 simp only [fg, List.mem_map] at hx
 obtain ⟨i, _, rfl⟩ := hx
 generalize wrap64 (wrap64 ((i : Int) * wrap64 (wrap64 (2 * s) + 7)) + wrap64 (s * 31)) = z
 have e : IntKind.u8.wrap z = z % 256 := rfl
 rw [e]
 omega
theorem Mi (s n : Int) (w : World) : Calls prog 11 #[.int .i64 s, .int .i64 n] w fun e w' => ∃ A N, e = .returned (.slice A N N) ∧ N = (dT n 0 2000).toNat ∧ w'.ownsRow w.heap.size 5 1 (.slice A N N) N (ag .u8 (fg s N)) ∧ bW w w' := by
 have Dh := iD (mw n 0 2000 w)
 obtain ⟨N, hN⟩ := ex (dT n 0 2000).toNat
 have hcl : dT n 0 2000 = (N : Int) := by rw [← hN]; unfold dT; omega
 have LD : N ≤ 2000 := by rw [← hN]; unfold dT; omega
 rw [hcl] at Dh
 have FA := iD hN
 clear hN hcl
 have Si : ∀ wx : World, (Instr.makeSlice 32 (.int .i64 N) (.int .i64 N)).run prog wx = .ok (.slice (some ⟨wx.heap.size, 0, none⟩) N N) (wx.alloc (.cells (madeCells #[.int .u8 0] N) 5)) := fun wx =>
  run_make_row' 32 5 (.int .u8 0) 1 underlying32 kD rfl .i64 .i64 N oM oM wx
 have FF : Hid ((madeCells #[.int .u8 0] N).toList = ag .u8 (List.replicate N 0)) := vM .u8 N
 generalize madeCells #[.int .u8 0] N = C8 at *
 go_enter func11, ntmps11
 go_wp2_with (fail)
 refine Dh.mono ?_
 rintro e w1 ⟨rfl, rfl⟩
 go_upto_region 2 with (fail)
 obtain ⟨W, hW⟩ := ex (w.alloc (.cells C8 5))
 have gj : Hid (bW w W) := by rw [← hW]; exact bV.alloc cV _
 have uk : Hid (W.ownsRow w.heap.size 5 1 (.slice (some ⟨w.heap.size, 0, none⟩) N N) N (ag .u8 (List.replicate N 0))) := by
  rw [← hW]
  exact fP FF (by rw [aE, List.length_replicate]) cV (by unfold maxLen; omega)
 rw [hW]
 clear hW Si
 go_wp2
 go_loopw [12] (fun i wr => ∃ j : Nat, j ≤ N ∧ i = .int .i64 j ∧ wr.ownsRow w.heap.size 5 1 (.slice (some ⟨w.heap.size, 0, none⟩) N N) N (ag .u8 (lay (List.replicate N 0) 0 ((fg s N).take j))) ∧ bW w wr) (fun i _ => N - (intOf i).toNat)
 case atStart => exact ⟨0, oM, rfl, by rw [List.take_zero, lD]; exact uk, gj⟩
 case round =>
  obtain ⟨j, hj, rfl, hO, hB⟩ := hrel
  have HO := iD hO
  have HB := iD hB
  clear hO hB
  by_cases aW : j < N
  ·have gZ : (lay (List.replicate N 0) 0 ((fg s N).take j)).length = N := by rw [cL _ _ _ (by rw [List.length_take, List.length_replicate, dy]; omega), List.length_replicate]
   obtain ⟨z, hz⟩ := getElem?_of_lt (l := lay (List.replicate N 0) 0 ((fg s N).take j)) (k := j) (by rw [gZ]; exact aW)
   have d0 := qJ gZ HO hz
   have d1 : wr.frozen? ⟨w.heap.size, j, none⟩ = false := HO.frozenAt _
   have dV := jA (img := List.replicate N 0) (b := fg s N) (a := 0) (i := j) (by rw [List.length_replicate, dy]; omega) (IZ s aW)
   rw [Nat.zero_add] at dV
   have n1 := ir HO j (IntKind.u8.wrap (wrap64 (wrap64 ((j : Int) * wrap64 (wrap64 (2 * s) + 7)) + wrap64 (s * 31))))
   rw [dV] at n1
   have xZ := iD n1
   clear hz n1 dV gZ
   have uJ : Hid (bW w _) := HB.setCell (p := ⟨w.heap.size, j, none⟩) cV (.int .u8 (IntKind.u8.wrap (wrap64 (wrap64 ((j : Int) * wrap64 (wrap64 (2 * s) + 7)) + wrap64 (s * 31)))))
   go_wp2
   go_roundw
   case rel => exact ⟨j + 1, oM, by go_num, xZ, uJ⟩
   case measure => simp [intOf]; omega
  have Ba : j = N := oM
  subst Ba
  have Ey : lay (List.replicate j 0) 0 ((fg s j).take j) = fg s j := by
   rw [List.take_of_length_le (by rw [dy]; exact Nat.le_refl _)]
   simp [lay, dy]
  have eO := HO.out
  rw [Ey] at eO
  have ox := iD eO
  clear eO Ey
  go_wp2
  go_ret
  exact ⟨_, _, rfl, FA.symm, ox, HB⟩
variable {w0 w : World} {L : Lc} {f : Fl}
theorem nE (x : Int) : (x % 2 = 0 → x.tmod 2 = 0) ∧ (x % 2 ≠ 0 → x.tmod 2 = 1 ∨ x.tmod 2 = -1) := by
 have := Int.tmod_add_mul_tdiv x 2
 have h2 := Int.emod_add_mul_ediv x 2
 have h3 : -2 < x.tmod 2 ∧ x.tmod 2 < 2 := by
  constructor
  ·have := Int.lt_tmod_of_pos x (b := 2) oM; omega
  exact Int.tmod_lt_of_pos x oM
 omega
theorem wB (h : bB w0 w L f) (first aa : Int) (Cr : dH first) (dB : dH aa) :
 Calls prog 57 #[.pointer (some ⟨L.d, 0, none⟩), .int .i64 first, .int .i64 aa] w fun e w' => e = .returned (fy (eC f first aa)) ∧ w = w' := by
 have e1 := gz L.d
 have HD := iD (nZ h)
 have HB := iD (wS h)
 have HP := iD (iq h)
 have HW := iD (l5 aa 4 18)
 have lG : f.aq.length ≤ 64 := h.ok.b2
 have iA : f.pg ≤ 16 := h.ok.p2
 obtain ⟨N, hN⟩ := ex f.aq.length
 obtain ⟨P, hP⟩ := ex f.pg
 rw [hN] at lG HB
 rw [hP] at iA HP
 unfold dH at Cr dB
 by_cases hd : f.aF = true
 ·have HR : Hid (eC f first aa = 20) := by unfold eC; rw [Hid, iP hd]
  rw [hd] at HD
  clear h hd hN hP
  go_enter func57, ntmps57
  go_wp2_with (fail)
  refine HD.mono ?_
  rintro e w1 ⟨rfl, rfl⟩
  go_wp2
  go_ret
  exact ⟨by rw [HR]; rfl, rfl⟩
 have kX : f.aF = false := by simpa using hd
 rw [kX] at HD
 by_cases hb : aa % 2 ≠ 0 ∨ aa < 4 ∨ 18 < aa
 ·have HR : Hid (eC f first aa = 3) := by unfold eC; rw [Hid, iN hd, iP hb]
  clear h hd kX hN hP
  by_cases hm : aa % 2 ≠ 0
  ·rcases (nE aa).2 hm with ht | ht
   all_goals
    clear hb hm
    go_enter func57, ntmps57
    go_wp2_with (fail)
    refine HD.mono ?_
    rintro e w1 ⟨rfl, rfl⟩
    go_wp2
    go_ret
    exact ⟨by rw [HR]; rfl, rfl⟩
  have nQ : aa % 2 = 0 := by simpa using hm
  have ht := (nE aa).1 nQ
  rw [decide_eq_false (show ¬ (4 ≤ aa ∧ aa ≤ 18) by omega)] at HW
  clear hb hm
  go_enter func57, ntmps57
  go_wp2_with (fail)
  refine HD.mono ?_
  rintro e w1 ⟨rfl, rfl⟩
  go_wp2_with (fail)
  refine (HW _).mono ?_
  rintro e w1 ⟨rfl, rfl⟩
  go_wp2
  go_ret
  exact ⟨by rw [HR]; rfl, rfl⟩
 have dZ : aa % 2 = 0 ∧ 4 ≤ aa ∧ aa ≤ 18 := oM
 have ht := (nE aa).1 dZ.1
 rw [decide_eq_true (show 4 ≤ aa ∧ aa ≤ 18 from dZ.2)] at HW
 have R3 : IntKind.i64.wrap ((N : Int) - aa) = (N : Int) - aa := IntWalk.i64_in _ oM
 obtain ⟨aaJ, aaI, aaH⟩ := dZ
 by_cases hi : first < 0 ∨ (N : Int) - aa < first
 ·have HR : Hid (eC f first aa = 10) := by unfold eC; rw [Hid, iN hd, iN hb, hN, iP hi]
  clear h hd kX hb hN hP
  by_cases h0 : first < 0
  ·have d0 : decide (first < 0) = true := by simpa using h0
   clear hi
   go_enter func57, ntmps57
   go_wp2_with (fail)
   refine HD.mono ?_
   rintro e w1 ⟨rfl, rfl⟩
   go_wp2_with (fail)
   refine (HW _).mono ?_
   rintro e w1 ⟨rfl, rfl⟩
   go_wp2
   go_ret
   exact ⟨by rw [HR]; rfl, rfl⟩
  have d0 : decide (first < 0) = false := by simpa using h0
  have d1 : decide ((N : Int) - aa < first) = true := by simp; omega
  have d1b : (N : Int) - aa < first := oM
  clear hi
  go_enter func57, ntmps57
  go_wp2_with (fail)
  refine HD.mono ?_
  rintro e w1 ⟨rfl, rfl⟩
  go_wp2_with (fail)
  refine (HW _).mono ?_
  rintro e w1 ⟨rfl, rfl⟩
  go_wp2_with (fail)
  refine HB.mono ?_
  rintro e w1 ⟨rfl, rfl⟩
  go_wp2
  go_ret
  exact ⟨by rw [HR]; rfl, rfl⟩
 have h0 : ¬ first < 0 := fun e => hi (.inl e)
 have d0 : decide (first < 0) = false := by simpa using h0
 have d1b : ¬ (N : Int) - aa < first := fun e => hi (.inr e)
 have d1 : decide ((N : Int) - aa < first) = false := by simpa using d1b
 have Bi : (P < 2 ∧ Hid (eC f first aa = 11)) ∨ (¬ P < 2 ∧ Hid (eC f first aa = 0)) := by
  have : eC f first aa = if P < 2 then 11 else 0 := by unfold eC; rw [iN hd, iN hb, hN, iN hi, hP]
  by_cases Dq : P < 2
  ·exact .inl ⟨Dq, by rw [Hid, this, iP Dq]⟩
  exact .inr ⟨Dq, by rw [Hid, this, iN Dq]⟩
 clear h hd kX hb hi hN hP
 rcases Bi with ⟨Dq, XJ⟩ | ⟨Dq, XJ⟩
 all_goals
  go_enter func57, ntmps57
  go_wp2_with (fail)
  refine HD.mono ?_
  rintro e w1 ⟨rfl, rfl⟩
  go_wp2_with (fail)
  refine (HW _).mono ?_
  rintro e w1 ⟨rfl, rfl⟩
  go_wp2_with (fail)
  refine HB.mono ?_
  rintro e w1 ⟨rfl, rfl⟩
  go_wp2_with (fail)
  refine HP.mono ?_
  rintro e w1 ⟨rfl, rfl⟩
  go_wp2
  go_ret
  exact ⟨by rw [XJ]; rfl, rfl⟩
theorem oK (h : bB w0 w L f) (k : Nat) (hk : k ≤ 8) (bl : Int) (cB : bl = ((2 * k + 2 : Nat) : Int)) :
 Calls prog 59 #[.pointer (some ⟨L.d, 0, none⟩), .int .i64 bl] w fun e w' => e = .returned (.int .i64 (aN f (2 * k + 2) : Nat)) ∧ w = w' := by
 have HP := iD (iq h)
 have iA : f.pg ≤ 16 := h.ok.p2
 have HS : Hid (((aN f (2 * k + 2) : Nat) : Int) = (k : Int) * (f.pg : Int) * 64) := by
  rw [Hid]; unfold aN
  rw [show (2 * k + 2 - 2) / 2 = k by omega]
  push_cast
  rfl
 have h1 : (k : Int) * (f.pg : Int) ≤ 128 := by
  have h2 := Nat.mul_le_mul hk iA
  have h3 : ((k * f.pg : Nat) : Int) ≤ 128 := oM
  push_cast at h3
  exact h3
 have h0 : (0 : Int) ≤ (k : Int) * (f.pg : Int) := Int.mul_nonneg oM oM
 have q1 : (bl - 2).tdiv 2 = k := by rw [cB, Int.tdiv_eq_ediv_of_nonneg oM]; omega
 have q1' : (bl - 2) / 2 = k := by rw [cB]; omega
 have q0 : IntKind.i64.wrap (bl - 2) = bl - 2 := IntWalk.i64_in _ oM
 have q2 : IntKind.i64.wrap ((k : Int) * (f.pg : Int)) = (k : Int) * (f.pg : Int) := IntWalk.i64_in _ oM
 have q3 : IntKind.i64.wrap ((k : Int) * (f.pg : Int) * 64) = (k : Int) * (f.pg : Int) * 64 := IntWalk.i64_in _ oM
 have Wv : 4 ≤ bl + 2 ∧ bl ≤ 18 := oM
 obtain ⟨dB, dZ⟩ := Wv
 have uM := iD cB
 generalize f.pg = P at *
 clear h cB
 go_enter func59, ntmps59
 go_wp2_with (fail)
 refine HP.mono ?_
 rintro e w1 ⟨rfl, rfl⟩
 go_wp2
 go_ret
 exact ⟨by rw [HS]; rfl, rfl⟩
def vB (n : Nat) : List eB := [⟨0, 1073741824, 0⟩, ⟨0, n, 0⟩, ⟨0, 4294967295, 0⟩]
theorem Cz (n j : Nat) (hj : j < 2) : (aH n).take (3 + 3 * (j + 1)) = (aH n).take (3 + 3 * j) ++ vB n := by
 match j, hj with
 | 0, _ => rfl
 | 1, _ => rfl
theorem pB (a b : List eB) : bK (a ++ b) = bK a ++ bK b := by unfold bK; rw [List.flatMap_append]
theorem yS (n : Nat) (hn : n ≤ 1000000) (w : World) : Calls prog 65 #[.int .i64 (n : Int)] w fun e w' => ∃ A c, e = .returned (.slice A 9 c) ∧ 9 ≤ c ∧ c ≤ maxLen ∧ Rd w' w'.heap.size A (bK (aH n)) ∧ bW w w' := by
 obtain ⟨i9, Ox, En, Em, El⟩ := info_parts zK
 have h3 : (3 : Nat) ≤ maxLen := by unfold maxLen; omega
 go_enter func65, ntmps65
 go_wp2
 obtain ⟨W, hW⟩ := ex (w.alloc (.cells #[.int .i64 0, .int .i64 1, .int .i64 0, .int .i64 0, .int .i64 2, .int .i64 2, .int .i64 0, .int .i64 3, .int .i64 0] 132))
 have gj : Hid (bW w W) := by rw [← hW]; exact bV.alloc cV _
 have uk : Hid (W.ownsRow w.heap.size 132 3 (.slice (some ⟨w.heap.size, 0, none⟩) 3 3) 3 (bK ((aH n).take 3))) := by
  rw [← hW]
  exact World.ownsRow_lit w #[.int .i64 0, .int .i64 1, .int .i64 0, .int .i64 0, .int .i64 2, .int .i64 2, .int .i64 0, .int .i64 3, .int .i64 0] 3 cV h3 rfl
 rw [hW]
 clear hW
 go_loopw [3, 8] (fun v i wr => ∃ j : Nat, j ≤ 2 ∧ i = .int .i64 j ∧ wr.ownsRow w.heap.size 132 3 v (3 + 3 * j) (bK ((aH n).take (3 + 3 * j))) ∧ bW w wr) (fun _ i _ => 2 - (intOf i).toNat)
 case atStart => exact ⟨0, oM, rfl, uk, gj⟩
 case round =>
  obtain ⟨j, hj, rfl, hO, hB⟩ := hrel
  obtain ⟨A1, c1, rfl, h4, h5, h6⟩ := a9 hO
  have HO := iD hO
  have HB := iD hB
  clear hO hB h6
  by_cases aW : j < 2
  ·have ph := iD (Rd.new wr #[.int .i64 0, .int .i64 1073741824, .int .i64 0, .int .i64 0, .int .i64 n, .int .i64 0, .int .i64 0, .int .i64 4294967295, .int .i64 0] 132 (bK (vB n)) rfl)
   have mA : Hid ((wr.alloc (.cells #[.int .i64 0, .int .i64 1073741824, .int .i64 0, .int .i64 0, .int .i64 n, .int .i64 0, .int .i64 0, .int .i64 4294967295, .int .i64 0] 132)).ownsRow w.heap.size 132 3 (.slice A1 (3 + 3 * j) c1) (3 + 3 * j) (bK ((aH n).take (3 + 3 * j)))) := aD HO (bV.alloc cV _)
   have UR := iD (Cz n j aW)
   have Bl : Hid (w.heap.size ≤ wr.heap.size) := HB.size
   go_wp2_with (at_builtin; refine aM _ rfl _ _ 40 rfl w.heap.size 132 i9 (.agg #[.int .i64 0, .int .i64 0, .int .i64 0]) 3 24 underlying40 Ox En Em El rfl oM _ (3 + 3 * j) (bK ((aH n).take (3 + 3 * j))) rfl mA.out (wr.heap.size + 1) _ 3 3 (bK (vB n)) rfl ph.out rfl (mP _) (by unfold maxLen; omega) oM (by rw [World.size_alloc]; have := Bl.out; omega) ?_)
   intro v' w2 bX hgrow kj
   have fK : Hid (bW w w2) := (HB.out.alloc HB.out.size _).grown hgrow (by rw [World.size_alloc]; have := Bl.out; omega) (fun k hk => (mA.out.lt k hk).1)
   rw [← pB, ← UR] at bX
   have rZ := iD bX
   clear bX hgrow kj
   go_wp2
   go_roundw
   case rel => exact ⟨j + 1, oM, by go_num, rZ, fK⟩
   case measure => simp [intOf]; omega
  have JQ : j = 2 := oM
  subst JQ
  have H4 : Hid (3 + 3 * 2 ≤ c1) := h4
  have H5 := iD h5
  clear h4 h5
  go_wp2
  go_ret
  exact ⟨A1, c1, rfl, H4, H5, ky HO, HB⟩
theorem Gb (A : Option Addr) (n c : Nat) (b : List Int) (w : World) (hA : Rd w w.heap.size A (ag .u8 b)) (hn : b.length = n) (hm : n ≤ 64) :
 Calls prog 63 #[.slice A n c] w fun e w' => ∃ A' c', e = .returned (.slice A' 64 c') ∧ w'.ownsRow w.heap.size 5 1 (.slice A' 64 c') 64 (ag .u8 (gg b)) ∧ bW w w' := by
 have HC := iD (kR A n c w.heap.size b w hA cV hn oM)
 obtain ⟨i5, rR, jc, jb, ja⟩ := info_parts kD
 have HP : Hid (gg b = b ++ List.replicate (64 - n) 255) := by rw [Hid]; unfold gg; rw [hn]
 have HN := iD hn
 clear hA hn
 go_enter func63, ntmps63
 go_wp2_with (fail)
 refine HC.mono ?_
 rintro e w1 ⟨v1, rfl, hO, hB⟩
 have iH := iD hO
 have zm := iD hB
 clear hO hB
 go_wp2
 go_loopw [3] (fun v wr => ∃ j : Nat, n + j ≤ 64 ∧ wr.ownsRow w.heap.size 5 1 v (n + j) (ag .u8 (b ++ List.replicate j 255)) ∧ bW w wr) (fun v _ => 64 - (match v with | .slice _ m _ => m | _ => 0))
 case atStart => exact ⟨0, oM, by simpa using iH.out, zm.out⟩
 case round =>
  obtain ⟨j, hj, hO, hB⟩ := hrel
  obtain ⟨A1, c1, rfl, h1, h2, h3⟩ := a9 hO
  have HO := iD hO
  have HB := iD hB
  clear hO hB h3
  by_cases aW : n + j < 64
  ·have ph := iD (Rd.new wr #[.int .u8 255] 5 (ag .u8 [255]) rfl)
   have mA : Hid ((wr.alloc (.cells #[.int .u8 255] 5)).ownsRow w.heap.size 5 1 (.slice A1 (n + j) c1) (n + j) (ag .u8 (b ++ List.replicate j 255))) := aD HO (bV.alloc cV _)
   have Bl : Hid (w.heap.size ≤ wr.heap.size) := HB.size
   have zh : Hid (b ++ List.replicate (j + 1) 255 = b ++ List.replicate j 255 ++ [255]) := by rw [Hid, List.append_assoc, ← List.replicate_succ']
   go_wp2_with (at_builtin; refine aM _ rfl _ _ 32 rfl w.heap.size 5 i5 (.int .u8 0) 1 1 underlying32 rR jc jb ja rfl oM _ (n + j) (ag .u8 (b ++ List.replicate j 255)) rfl mA.out (wr.heap.size + 1) _ 1 1 (ag .u8 [255]) rfl ph.out rfl (cZ _ _) (by unfold maxLen; omega) oM (by rw [World.size_alloc]; have := Bl.out; omega) ?_)
   intro v' w2 bX hgrow kj
   have fK : Hid (bW w w2) := (HB.out.alloc HB.out.size _).grown hgrow (by rw [World.size_alloc]; have := Bl.out; omega) (fun k hk => (mA.out.lt k hk).1)
   rw [← dm, ← zh] at bX
   obtain ⟨A2, c2, rfl, h4, h5, h6⟩ := a9 bX
   have rZ := iD bX
   clear bX hgrow kj h6
   go_wp2
   go_roundw
   case rel => exact ⟨j + 1, oM, rZ, fK⟩
   case measure => simp; omega
  have JQ : n + j = 64 := oM
  have HE : Hid (j = 64 - n) := by rw [Hid]; omega
  rw [JQ] at HO ⊢
  clear h1 h2
  go_wp2
  go_ret
  exact ⟨A1, c1, rfl, by have := HO.out; rw [HE.out, ← HP.out] at this; exact this, HB.out⟩
end Go.Proofs.YtjdknddnanopaaaGreat
