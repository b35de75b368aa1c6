/-
  Part 15 of the proof.
-/
import Derived.Test.YtjdknddnanopaaaGreatQ14
namespace Go.Proofs.YtjdknddnanopaaaGreat
open Go.RowKit Tryz
set_option maxRecDepth 100000
set_option maxHeartbeats 16000000
set_option linter.all false
variable {f g : Fl} {b : Bk} {s : St} {w w' w0 : World} {N d i id k m x : Nat} {n : Int} {A B C D E F : Array Value} {X : Nat → Prop} {t u : TypeId} {img : List Int} {Q : Exit → Go.Act → World → Prop} {a : Go.Act}
section
variable {md : Region.Mode} {ops : Array Oper} {Q : Exit → Go.Act → World → Prop} {S : World → Prop} {k fuel : Nat} {ay : Array Bool} {a a' : Go.Act} {w : World} {oi : Oper} {v : Value}
theorem tK (i : Nat) (v : Value) (hS : S w) (h : fF prog md ops Q S k fuel (ay.setIfInBounds i true) a' w) (o : Pn prog md ops Q ay a i d v a' := by exact M9) (xw : i ≠ k := by decide) : fF prog md ops Q S k (fuel + 1) ay a w := by
 obtain ⟨oi, hi, hs, hf, hr, hd, hw, he, ha, hQ⟩ := o
 exact Mv hi hs hf hr xw (by rw [hd]; exact hQ) (.inl ⟨hw, fun w _ => he w⟩) hS (by rw [hd, ha]; exact h)
theorem tM (i : Nat) (v : Value) (hi : ops[i]? = some oi) (hy : YieldsIf prog ops S oi v a) (hS : S w) (h : fF prog md ops Q S k fuel (ay.setIfInBounds i true) a' w) (hs : Region.noSelect ops = true := by kernel_rfl) (hf : Region.free md ops ay i = true := by kernel_rfl) (hr : (Region.ready md ops ay).contains i = true := by kernel_rfl) (hk : ((ops[k]?).map (·.after.any fun e => Region.binds md e && e.on == i)) = some true := by kernel_rfl) (hd : oi.dst = some d := by exact rfl) (ha : a.put (some d) (v) = a' := by (simp only [nm]; rfl)) (hQ : ∀ c a w, Q (.panic c) (a.put (some d) (v)) w → Q (.panic c) a w := by exact fun _ _ _ h => h) : fF prog md ops Q S k (fuel + 1) ay a w :=
 Jd hi hs hf hr hk (by rw [hd]; exact hQ) hy hS (by rw [hd, ha]; exact h)
theorem wI (i : Nat) (h : wpOp prog ops Q i (fun a' w' => S w' ∧ wpAnyH prog md ops Q S fuel (ay.setIfInBounds i true) a' w') a w) (hr : Region.ready md ops ay = [i] := by kernel_rfl) : wpAnyH prog md ops Q S (fuel + 1) ay a w := DK hr h
theorem wJ (i j : Nat) (h : wpOp prog ops Q i (fun a' w' => S w' ∧ wpAnyH prog md ops Q S fuel (ay.setIfInBounds i true) a' w') a w) (h2 : wpOp prog ops Q j (fun a' w' => S w' ∧ wpAnyH prog md ops Q S fuel (ay.setIfInBounds j true) a' w') a w) (hr : Region.ready md ops ay = [i, j] := by kernel_rfl) : wpAnyH prog md ops Q S (fuel + 1) ay a w := DJ hr h h2
theorem kI (i : Nat) (h : wpOp prog ops Q i (fun a' w' => S w' ∧ fF prog md ops Q S k fuel (ay.setIfInBounds i true) a' w') a w) (hr : Region.ready md ops ay = [i] := by kernel_rfl) (xw : i ≠ k := by decide) : fF prog md ops Q S k (fuel + 1) ay a w := Mw hr xw h
theorem kL (h : wpOp prog ops Q k (fun a' w' => wpAnyH prog md ops Q (fun _ => True) fuel (ay.setIfInBounds k true) a' w') a w) (hr : Region.ready md ops ay = [k] := by kernel_rfl) : fF prog md ops Q S k (fuel + 1) ay a w := Je hr h
theorem rX {d' : Option Tmp} {T : Prop} (hS : T) (h : fF prog md ops Q S k fuel ay a' w) (hd : d' = some d := by exact rfl) (ha : a.put (some d) (v) = a' := by (simp only [nm]; rfl)) : ∃ v', Ending.returned v = .returned v' ∧ T ∧ fF prog md ops Q S k fuel ay (a.put d' v') w := by
 subst hd ha
 exact ⟨v, rfl, hS, h⟩
theorem vP (i : Nat) (g j : Nat) (hS : S w) (h : wpAnyH prog md ops Q S fuel (ay.setIfInBounds i true) a' w) (o : Pn prog md ops Q ay a i d (.pointer (some ⟨g, j, none⟩)) a' := by exact M9) : wpAnyH prog md ops Q S (fuel + 1) ay a w := tV i _ hS h o
theorem kP (i : Nat) (g j : Nat) (hS : S w) (h : fF prog md ops Q S k fuel (ay.setIfInBounds i true) a' w) (o : Pn prog md ops Q ay a i d (.pointer (some ⟨g, j, none⟩)) a' := by exact M9) (xw : i ≠ k := by decide) : fF prog md ops Q S k (fuel + 1) ay a w := tK i _ hS h o xw
theorem vA (i : Nat) (C : Array Value) (hS : S w) (h : wpAnyH prog md ops Q S fuel (ay.setIfInBounds i true) a' w) (o : Pn prog md ops Q ay a i d (.agg C) a' := by exact M9) : wpAnyH prog md ops Q S (fuel + 1) ay a w := tV i _ hS h o
theorem kA (i : Nat) (C : Array Value) (hS : S w) (h : fF prog md ops Q S k fuel (ay.setIfInBounds i true) a' w) (o : Pn prog md ops Q ay a i d (.agg C) a' := by exact M9) (xw : i ≠ k := by decide) : fF prog md ops Q S k (fuel + 1) ay a w := tK i _ hS h o xw
theorem vN (i : Nat) (z : Int) (hS : S w) (h : wpAnyH prog md ops Q S fuel (ay.setIfInBounds i true) a' w) (o : Pn prog md ops Q ay a i d (.int .i64 z) a' := by exact M9) : wpAnyH prog md ops Q S (fuel + 1) ay a w := tV i _ hS h o
theorem kN (i : Nat) (z : Int) (hS : S w) (h : fF prog md ops Q S k fuel (ay.setIfInBounds i true) a' w) (o : Pn prog md ops Q ay a i d (.int .i64 z) a' := by exact M9) (xw : i ≠ k := by decide) : fF prog md ops Q S k (fuel + 1) ay a w := tK i _ hS h o xw
theorem Fr.fN {wr : World} {l : List (Array Value × TypeId)} (h : Fr w wr ((C, t) :: (D, u) :: l)) : wr.heap[w.heap.size]? = some (.cells C t (0, 0)) ∧ wr.heap[w.heap.size + 1]? = some (.cells D u (0, 0)) := ⟨h.aC, h.dL⟩
variable {K : Go.Act → World → Prop} {rest : List Oper} {o : Oper} {n : Nat} {al : List Value} {R : Ending → World → Prop} {xl : List Operand} {JZ : Array TypeId}
theorem cW (hc : Calls prog n al.toArray w R) (h : ∀ e w', R e w' → ∃ v, e = .returned v ∧ K (a.put oi.dst v) w') (hi : ops[i]? = some oi := by exact rfl) (hw : Region.wanted oi (yielded ops a.tmps) = true := by exact rfl) (ho : oi.op = .call { callee := .value (.func n), args := xl.toArray, argTypes := JZ } := by exact rfl) (hargs : xl.map a.eval = al := by exact rfl) (vW : ∀ (args : Array Value) (w : World), (callFunc n args).run prog w = .ok (.enter n args) w := by intro _ _; go_simp) : wpOp prog ops Q i K a w :=
 ru hi hw xl JZ ho hargs vW (hc.mono fun e w' hr => h e w' hr)
theorem cP (hc : Calls prog n al.toArray w R) (h : ∀ e w', R e w' → ∃ v, e = .returned v ∧ wpList prog ops Q rest (a.put o.dst v) w') (hg : o.guard = none := by exact rfl) (ho : o.op = .call { callee := .value (.func n), args := xl.toArray, argTypes := JZ } := by exact rfl) (hargs : xl.map a.eval = al := by exact rfl) (vW : ∀ (args : Array Value) (w : World), (callFunc n args).run prog w = .ok (.enter n args) w := by intro _ _; go_simp) : wpList prog ops Q (o :: rest) a w :=
 iL hg xl JZ ho hargs vW (hc.mono fun e w' hr => h e w' hr)
theorem rP {d : Option Tmp} (h : wpList prog ops Q rest a' w) (ha : a.put d v = a' := by first | (simp only [nm]; rfl) | rfl) : ∃ v', Ending.returned v = .returned v' ∧ wpList prog ops Q rest (a.put d v') w := by
 subst ha
 exact ⟨v, rfl, h⟩
end
section
variable {md : Region.Mode} {ops : Array Oper} {Q : Exit → Go.Act → World → Prop} {S : World → Prop} {k fuel : Nat} {ay l' : Array Bool} {a a' : Go.Act} {w w0 : World} {oi o op : Oper} {rest : List Oper} {K : Go.Act → World → Prop} {x y : Operand} {t : TypeId} {C D : Array Value} {L L' : List (Array Value × TypeId)} {g j : Nat} {v : Value}
theorem gH (h : w.heap[g]? = some (.cells A t (0, 0))) (hj : A[j]? = some v) : w.cell? ⟨g, j, none⟩ = some v := (cell_of_row w g j A t (0, 0) h).trans hj
theorem yC {ty : TypeId} (hS : ∀ w, S w → w.cell? ⟨g, j, none⟩ = some v) (hw : Region.wanted op (yielded ops a.tmps) = true := by exact rfl) (ho : op.op = .load ty x := by exact rfl) (hx : a.eval x = .pointer (some ⟨g, j, none⟩) := by exact rfl) (hr : ∀ w : World, w.cell? ⟨g, j, none⟩ = some v → (Instr.loadAt ty (.pointer (some ⟨g, j, none⟩))).run prog w = .ok v w := by (intro w h; go_simp)) : YieldsIf prog ops S op v a := YB hw x ho g j hx v (fun w h => hr w (hS w h))
theorem iK (hS : ∀ w, S w → w.heap[g]? = some (.cells C 45 (0, 0))) (hs : C.size = 26) (hw : Region.wanted op (yielded ops a.tmps) = true := by exact rfl) (ho : op.op = .load 45 x := by exact rfl) (hx : a.eval x = .pointer (some ⟨g, 0, none⟩) := by exact rfl) : YieldsIf prog ops S op (.agg C) a := ZK hw x ho g hx C hS hs
theorem jT (hS : ∀ w, S w → w.heap[g]? = some (.cells C 35 (0, 0))) (hs : C.size = 6) (hw : Region.wanted op (yielded ops a.tmps) = true := by exact rfl) (ho : op.op = .load 35 x := by exact rfl) (hx : a.eval x = .pointer (some ⟨g, 0, none⟩) := by exact rfl) : YieldsIf prog ops S op (.agg C) a := ZL hw x ho g hx C hS hs
theorem lB (hr : w.heap[g]? = some (.cells C 45 (0, 0))) (hs : C.size = 26) (h : wpList prog ops Q rest a' w) (hg : o.guard = none := by exact rfl) (ho : o.op = .load 45 x := by exact rfl) (hx : a.eval x = .pointer (some ⟨g, 0, none⟩) := by exact rfl) (ha : a.put o.dst (.agg C) = a' := by first | (simp only [nm]; rfl) | rfl) : wpList prog ops Q (o :: rest) a w := by
 subst ha
 exact Z4 hg x ho g hx C hr hs h
theorem jM (hr : w.heap[g]? = some (.cells C 45 (0, 0))) (h : wpList prog ops Q rest a' w) (hs : C.size = 26 := by first | exact aY _ _ _ _ | exact bC _ _) (hg : o.guard = none := by exact rfl) (ho : o.op = .load 45 x := by exact rfl) (hx : a.eval x = .pointer (some ⟨g, 0, none⟩) := by exact rfl) (ha : a.put o.dst (.agg C) = a' := by first | (simp only [nm]; rfl) | rfl) : wpList prog ops Q (o :: rest) a w := lB hr hs h hg ho hx ha
theorem lF (hr : w.heap[g]? = some (.cells C 35 (0, 0))) (hs : C.size = 6) (h : wpList prog ops Q rest a' w) (hg : o.guard = none := by exact rfl) (ho : o.op = .load 35 x := by exact rfl) (hx : a.eval x = .pointer (some ⟨g, 0, none⟩) := by exact rfl) (ha : a.put o.dst (.agg C) = a' := by first | (simp only [nm]; rfl) | rfl) : wpList prog ops Q (o :: rest) a w := by
 subst ha
 exact Z5 hg x ho g hx C hr hs h
theorem xr (hr : w.heap[g]? = some (.cells C 35 (0, 0))) (h : wpList prog ops Q rest a' w) (hs : C.size = 6 := by exact aQ _ _) (hg : o.guard = none := by exact rfl) (ho : o.op = .load 35 x := by exact rfl) (hx : a.eval x = .pointer (some ⟨g, 0, none⟩) := by exact rfl) (ha : a.put o.dst (.agg C) = a' := by first | (simp only [nm]; rfl) | rfl) : wpList prog ops Q (o :: rest) a w := lF hr hs h hg ho hx ha
theorem M8 (o : ah (fun b => b = N + 0) w w') : ah (XF X N (m + 1)) w w' := o.more (fun b e => e ▸ pJ _ _)
theorem NX (o : ah (fun b => b = N + 1) w w') : ah (XF X N (m + 2)) w w' := o.more (fun b e => e ▸ xf1 _ _)
theorem M7 (o : ah (fun b => b = N + 2) w w') : ah (XF X N (m + 3)) w w' := o.more (fun b e => e ▸ xf2 _ _)
theorem Vi (o : ah (fun b => b = N + 3) w w') : ah (XF X N (m + 4)) w w' := o.more (fun b e => e ▸ xf3 _ _)
theorem sW (j : Nat) (H : Hid (Fr w0 w L)) (h : ∀ w', ah (fun b => b = w0.heap.size + j) w w' → Hid (Fr w0 w' L') → K a w') (hL : L[j]? = some (D, t) := by exact rfl) (hi : ops[i]? = some oi := by exact rfl) (hw : Region.wanted oi (yielded ops a.tmps) = true := by exact rfl) (di : oi.dst = none := by exact rfl) (ho : oi.op = .store t x y := by exact rfl) (hx : a.eval x = .pointer (some ⟨w0.heap.size + j, 0, none⟩) := by exact rfl) (hy : a.eval y = .agg C := by exact rfl) (hs : (prog.info? t).map (·.size) = some C.size := by first | exact gE (aY _ _ _ _) | exact pv (aQ _ _) | exact yg (cD _ _) | exact gE (bC _ _) | exact gE rfl | exact pv rfl | exact yg rfl | exact gE (Hid.out ‹_›) | exact pv (Hid.out ‹_›)) (ht : (prog.info? t).map (·.size) = some D.size := by first | exact gE (aY _ _ _ _) | exact pv (aQ _ _) | exact yg (cD _ _) | exact gE (bC _ _) | exact gE rfl | exact pv rfl | exact yg rfl | exact gE (Hid.out ‹_›) | exact pv (Hid.out ‹_›)) (h1 : C.all (·.oneCell') = true := by first | exact E9 _ _ _ _ | exact mE _ _ | exact gK _ _ | exact eX _ _ | exact Hid.out ‹_›) (hl : L.set j (C, t) = L' := by (simp only [nm]; rfl)) : wpOp prog ops Q i K a w :=
 fO hi hw di t x y ho (w0.heap.size + j) C D hx hy t (H.out.row j D t hL) hs (Option.some.inj (ht.symm.trans hs)) h1 (h _ (ah.row w (w0.heap.size + j) C rfl) (H.out.put j C hL hl))
theorem sP (j : Nat) (H : Hid (Fr w0 w L)) (h : ∀ w', ah (fun b => b = w0.heap.size + j) w w' → Hid (Fr w0 w' L') → wpList prog ops Q rest a w') (hL : L[j]? = some (D, t) := by exact rfl) (hg : o.guard = none := by exact rfl) (di : o.dst = none := by exact rfl) (ho : o.op = .store t x y := by exact rfl) (hx : a.eval x = .pointer (some ⟨w0.heap.size + j, 0, none⟩) := by exact rfl) (hy : a.eval y = .agg C := by exact rfl) (hs : (prog.info? t).map (·.size) = some C.size := by first | exact gE (aY _ _ _ _) | exact pv (aQ _ _) | exact yg (cD _ _) | exact gE (bC _ _) | exact gE rfl | exact pv rfl | exact yg rfl | exact gE (Hid.out ‹_›) | exact pv (Hid.out ‹_›)) (ht : (prog.info? t).map (·.size) = some D.size := by first | exact gE (aY _ _ _ _) | exact pv (aQ _ _) | exact yg (cD _ _) | exact gE (bC _ _) | exact gE rfl | exact pv rfl | exact yg rfl | exact gE (Hid.out ‹_›) | exact pv (Hid.out ‹_›)) (h1 : C.all (·.oneCell') = true := by first | exact E9 _ _ _ _ | exact mE _ _ | exact gK _ _ | exact eX _ _ | exact Hid.out ‹_›) (hl : L.set j (C, t) = L' := by (simp only [nm]; rfl)) : wpList prog ops Q (o :: rest) a w :=
 wpList_store_rowTo hg t x y ho di (w0.heap.size + j) C hx hy t D (H.out.row j D t hL) hs (Option.some.inj (ht.symm.trans hs)) h1 (h _ (ah.row w (w0.heap.size + j) C rfl) (H.out.put j C hL hl))
end
section
variable {fn : Func} {R : Ending → World → Prop} {a : Go.Act} {w : World} {p p' u v ty AU g g' : Nat} {t t' : TypeId} {C C' : Array Value} {d d' : TypeDesc}
theorem rJ (h : fn.results = #[.cell p ty, .tmp u, .tmp v]) (hg : w.heap[g]? = some (.cells C t (0, 0))) (hs : (prog.info? ty).map (·.size) = some C.size) (hR : R (.returned (.tuple #[.agg C, a.tmps.getD u undef, a.tmps.getD v undef])) w) (hp : a.tmps.getD p undef = .pointer (some ⟨g, 0, none⟩) := by exact rfl) (hu : prog.underlying ty = some d := by first | exact underlying45 | exact underlying43 | exact underlying35) (hd : QH d = true := by exact rfl) (hf : a.defers = [] := by exact rfl) : bodyPost prog fn R .ret a w :=
 bodyPost_ret (zy h _ _ g t C (0, 0) d hp hg hu (by cases d <;> first | rfl | simp [QH] at hd) hs) hf hR
theorem rT (h : fn.results = #[.cell p ty, .cell p' AU, .tmp u, .tmp v]) (hg : w.heap[g]? = some (.cells C t (0, 0))) (dr : w.heap[g']? = some (.cells C' t' (0, 0))) (hs : (prog.info? ty).map (·.size) = some C.size) (jU : (prog.info? AU).map (·.size) = some C'.size) (hR : R (.returned (.tuple #[.agg C, .agg C', a.tmps.getD u undef, a.tmps.getD v undef])) w) (hp : a.tmps.getD p undef = .pointer (some ⟨g, 0, none⟩) := by exact rfl) (hu : prog.underlying ty = some d := by first | exact underlying45 | exact underlying43 | exact underlying35) (hd : QH d = true := by exact rfl) (Nf : a.tmps.getD p' undef = .pointer (some ⟨g', 0, none⟩) := by exact rfl) (pY : prog.underlying AU = some d' := by first | exact underlying45 | exact underlying43 | exact underlying35) (kX : QH d' = true := by exact rfl) (hf : a.defers = [] := by exact rfl) : bodyPost prog fn R .ret a w :=
 bodyPost_ret (zx h _ _ g g' t t' C C' d d' hp Nf hg dr hu (by cases d <;> first | rfl | simp [QH] at hd) hs pY (by cases d' <;> first | rfl | simp [QH] at kX) jU) hf hR
end
theorem rF {l : List (Array Value × TypeId)} {ops : Array Oper} (h : Hid (Fr w0 w ((A, t) :: (B, u) :: l))) (k : Hid (Fr w0 w.drew ((A, t) :: (B, u) :: l)) → wpAnyH prog .any ops Q (fun w' => w'.heap[w0.heap.size]? = some (.cells A t (0, 0)) ∧ w'.heap[w0.heap.size + 1]? = some (.cells B u (0, 0))) ops.size (Array.replicate ops.size false) a w.drew) : (Code.region id ops true).wp prog Q a w :=
 wp_region_held_drew (by kernel_rfl) (h.out.ab fT).fN (fun _ => k (h.out.ab fT))
theorem rG {l : List (Array Value × TypeId)} {ops : Array Oper} (h : Hid (Fr w0 w ((A, t) :: (B, u) :: l))) (n : Nat) (k : Hid (Fr w0 w.drew ((A, t) :: (B, u) :: l)) → fF prog .any ops Q (fun w' => w'.heap[w0.heap.size]? = some (.cells A t (0, 0)) ∧ w'.heap[w0.heap.size + 1]? = some (.cells B u (0, 0))) n ops.size (Array.replicate ops.size false) a w.drew) : (Code.region id ops true).wp prog Q a w :=
 mh (by kernel_rfl) _ n (k (h.out.ab fT))
theorem rQ {p : Prop} {x : Array Value × TypeId} {l : List (Array Value × TypeId)} {X : World → Prop} (H : Hid (Fr w0 w ((C, 45) :: x :: (D, 45) :: l))) (post : ∀ w', Hid (Fr w0 w' ((C, 45) :: x :: (C, 45) :: l)) → X w') 
 (h5 : C.size = 26 := by first | exact aY _ _ _ _ | exact bC _ _) (h : Hid (Fr w0 w ((C, 45) :: x :: (D, 45) :: l)) → (∀ w', Hid (Fr w0 w' ((C, 45) :: x :: (C, 45) :: l)) → X w') → C.size = 26 → p := by
  intro H post' JX
  have post := iD post'
  have h5 := iD JX
  clear post' JX
  refine wp_region_list ?_
  refine lB (Fr.aC (Hid.out H)) (Hid.out h5) ?_
  refine sP 2 H fun w9 _ H9 => ?_
  repeat (first | go_values | go_skip | go_guarded | go_step | go_upon | go_in | go_back)
  (try simp only [Exit.inBlock, Exit.then])
  refine rI rfl (Fr.eT (Hid.out H9)) (gE (Hid.out h5)) ?_
  exact post w9 H9) : p := h H post h5
theorem ox5 {Y : Nat → Prop} {w1 w2 : World} (o : ah (fun b => b = N + 2) w w1) (o' : ah (fun b => b = N + 3) w1 w2) : ah (XF Y N 4) w w2 := (M7 o).trans (Vi o')
theorem rV {p : Prop} {X : World → Prop} (H : Hid (Fr w0 w [(C, 45), (D, 35), (E, 45), (F, 35)])) (post : ∀ w', (∀ Y, ah (XF Y w0.heap.size 4) w w') → Hid (Fr w0 w' [(C, 45), (D, 35), (C, 45), (D, 35)]) → X w') 
 (h5 : C.size = 26 := by first | exact aY _ _ _ _ | exact bC _ _) (h6 : D.size = 6 := by exact aQ _ _) (h : Hid (Fr w0 w [(C, 45), (D, 35), (E, 45), (F, 35)]) → (∀ w', (∀ Y, ah (XF Y w0.heap.size 4) w w') → Hid (Fr w0 w' [(C, 45), (D, 35), (C, 45), (D, 35)]) → X w') → C.size = 26 → D.size = 6 → p := by
  intro H post' JX SM
  have post := iD post'
  have h5 := iD JX
  have h6 := iD SM
  clear post' JX SM
  refine rF H fun H1 => ?_
  refine tL 0 _ rfl (iK (fun _ hS => hS.1) (Hid.out h5)) (Fr.fN (Hid.out H1)) ?_
  refine tL 1 _ rfl (jT (fun _ hS => hS.2) (Hid.out h6)) (Fr.fN (Hid.out H1)) ?_
  refine wI 2 (sW 2 H1 fun w8 o1 H8 => ?_)
  refine ⟨Fr.fN (Hid.out H8), ?_⟩
  refine wI 3 (sW 3 H8 fun w9 o2 H9 => ?_)
  refine ⟨Fr.fN (Hid.out H9), ?_⟩
  refine tV 4 _ (Fr.fN (Hid.out H9)) ?_
  refine tV 5 _ (Fr.fN (Hid.out H9)) ?_
  refine wD ?_
  repeat (first | go_values | go_skip | go_guarded | go_step | go_upon | go_in | go_back)
  (try simp only [Exit.inBlock, Exit.then])
  refine rT rfl (Fr.eT (Hid.out H9)) (Fr.Kz (Hid.out H9)) (gE (Hid.out h5)) (pv (Hid.out h6)) ?_
  exact post w9 (fun _ => (ah.ak fT).trans (ox5 o1 o2)) H9) : p := h H post h5 h6
theorem rY {p : Prop} {X : World → Prop} (H : Hid (Fr w0 w [(C, 45), (D, 35), (E, 45), (F, 35)])) (post : ∀ w', (∀ Y, ah (XF Y w0.heap.size 4) w w') → Hid (Fr w0 w' [(C, 45), (D, 35), (C, 45), (D, 35)]) → X w') 
 (h5 : C.size = 26 := by first | exact aY _ _ _ _ | exact bC _ _) (h6 : D.size = 6 := by exact aQ _ _) (h : Hid (Fr w0 w [(C, 45), (D, 35), (E, 45), (F, 35)]) → (∀ w', (∀ Y, ah (XF Y w0.heap.size 4) w w') → Hid (Fr w0 w' [(C, 45), (D, 35), (C, 45), (D, 35)]) → X w') → C.size = 26 → D.size = 6 → p := by
  intro H post' JX SM
  have post := iD post'
  have h5 := iD JX
  have h6 := iD SM
  clear post' JX SM
  refine wI 5 (sW 2 H fun w8 o1 H8 => ?_)
  refine ⟨Fr.fN (Hid.out H8), ?_⟩
  refine wI 6 (sW 3 H8 fun w9 o2 H9 => ?_)
  refine ⟨Fr.fN (Hid.out H9), ?_⟩
  refine tV 7 _ (Fr.fN (Hid.out H9)) ?_
  refine tV 8 _ (Fr.fN (Hid.out H9)) ?_
  refine wD ?_
  repeat (first | go_values | go_skip | go_guarded | go_step | go_upon | go_in | go_back)
  (try simp only [Exit.inBlock, Exit.then])
  refine rT rfl (Fr.eT (Hid.out H9)) (Fr.Kz (Hid.out H9)) (gE (Hid.out h5)) (pv (Hid.out h6)) ?_
  exact post w9 (fun _ => ox5 o1 o2) H9) : p := h H post h5 h6
theorem qm (h : f.ok) {B : Nat} (hx : ¬ (B * f.pg ≤ x ∧ x < B * f.pg + f.pg)) : aB (aT f (B : Int)).1 x = aB f x := by
 by_cases hd : f.aF = true
 ·unfold aT; rw [iP hd]
 by_cases hB : B < f.aq.length
 ·rcases (nY h (by simpa using hd) hB).ok with ⟨_, _, e⟩ | ⟨_, _, e⟩ <;> rw [e, iN hx]
 unfold aT; rw [iN hd, iP oM]
theorem sE (h : f.ok) {P : Nat} {b : List Int} (hb : b.length = 64) (hx : x ≠ P) : aB (bz f (P : Int) b).1 x = aB f x := by
 by_cases ha : lZ f (P : Int) = 0
 ·obtain ⟨hd, _, hP⟩ := rB ha
  have hP' : P < f.aq.length * f.pg := oM
  by_cases cB : aB f P = cM
  ·rcases (pR h hd hP' hb cB).ok with ⟨_, _, e⟩ | ⟨_, _, e⟩ <;> rw [e, iN hx]
  have zV : ch (aB f P) = false := by
   cases nA : ch (aB f P) with
   | false => rfl
   | true => exact absurd ((iX (kn h hP')).1 nA) cB
  unfold bz
  rw [iN (by rw [ha]; simp), iN oM, Int.toNat_natCast, iP zV]
 unfold bz
 rw [iP ha]
theorem N0 (hf : f.ok) (ho : bD f s) (hb : s.bt = true) (hr : s.af = false) (hx : x < s.first * f.pg ∨ (s.first + s.aa) * f.pg ≤ x) : aB (eV s f).1 x = aB f x := by
 unfold eV
 split
 ·rw [show (s.first : Int) + (s.bH : Int) = ((s.first + s.bH : Nat) : Int) by push_cast; rfl]
  have h1 : (s.first + s.bH) * f.pg + f.pg ≤ (s.first + s.aa) * f.pg := by
   have := Nat.mul_le_mul_right f.pg (show s.first + s.bH + 1 ≤ s.first + s.aa by have := ho.tb; omega)
   rw [Nat.add_mul (s.first + s.bH), Nat.one_mul] at this
   exact this
  have h2 : s.first * f.pg ≤ (s.first + s.bH) * f.pg := Nat.mul_le_mul_right _ oM
  exact qm hf oM
 have hd := ho.dn hb hr
 obtain ⟨h1, h2⟩ := ho.sL ho.tb ho.ts hd
 have hl : (s.bZ[s.done]?.getD []).length = 64 := by
  obtain ⟨p, hp⟩ := getElem?_of_lt (l := s.bZ) (k := s.done) (by rw [ho.pl hb]; exact hd)
  rw [hp]
  exact (ho.pb p (List.mem_of_getElem? hp)).1
 exact sE hf hl oM
theorem yn (hf : f.ok) (ho : bD f s) (hx : x < s.first * f.pg ∨ (s.first + s.aa) * f.pg ≤ x) : aB (aI s f).2.1 x = aB f x := by
 unfold aI
 split
 ·rfl
 rename_i h1
 split
 ·rfl
 rename_i h2
 have := N0 hf ho (by simpa using h2) (by simpa using h1) hx
 split
 ·exact this
 split <;> exact this
theorem NZ (hf : f.ok) (ho : bD f s) : (eV s f).1.ok := by
 unfold eV
 split
 ·exact kr hf
 refine nK hf ?_
 cases hp : s.bZ[s.done]? with
 | none => exact Bytes.nil
 | some p => exact (ho.pb p (List.mem_of_getElem? hp)).2
theorem ym (hf : f.ok) (ho : bD f s) : (aI s f).2.1.ok := by
 unfold aI
 split
 ·exact hf
 split
 ·exact hf
 have := NZ hf ho
 split
 ·exact this
 split <;> exact this
theorem BG : ∀ (n : Nat) {f : Fl} {s : St} (hf : f.ok) (ho : bD f s) {x : Nat} (hx : x < s.first * f.pg ∨ (s.first + s.aa) * f.pg ≤ x), aB (iZ n s f).2.1 x = aB f x ∧ (iZ n s f).2.1.ok
 | 0, f, s, hf, ho, x, hx => ⟨rfl, hf⟩
 | n + 1, f, s, hf, ho, x, hx => by
  have h1 := yn hf ho hx
  have h2 := ym hf ho
  rw [fq]
  split
  ·exact ⟨h1, h2⟩
  have AX := mJ s f
  have ka := gq s f
  obtain ⟨h3, h4⟩ := BG n h2 (mc ho) (x := x) (by rw [AX.first, AX.aa, ka.p]; exact hx)
  exact ⟨h3.trans h1, h4⟩
theorem ue (hf : f.ok) (ho : bD f s) (hx : x < s.first * f.pg ∨ (s.first + s.aa) * f.pg ≤ x) : aB (aA s f).2.1 x = aB f x ∧ (aA s f).2.1.ok := by
 unfold aA
 split
 ·exact ⟨rfl, hf⟩
 have AX := lK s f
 exact BG 10 hf (mx ho) (by rw [AX.first, AX.aa]; exact hx)
theorem vx : ∀ (n : Nat) (s : St) (f : Fl), eo f (iZ n s f).2.1
 | 0, s, f => eo.refl f
 | n + 1, s, f => by
  rw [fq]
  split
  ·exact gq s f
  exact (gq s f).trans (vx n _ _)
theorem ju (s : St) (f : Fl) : eo f (aA s f).2.1 := by
 unfold aA
 split
 ·exact eo.refl f
 exact vx _ _ _
theorem tH (s : St) (f : Fl) : (aI s f).2.1.az = f.az := by
 unfold aI
 split
 ·rfl
 split
 ·rfl
 split
 ·exact yG s f
 split <;> exact yG s f
theorem vy : ∀ (n : Nat) (s : St) (f : Fl), (iZ n s f).2.1.az = f.az
 | 0, s, f => rfl
 | n + 1, s, f => by
  rw [fq]
  split
  ·exact tH s f
  exact (vy n _ _).trans (tH s f)
theorem zN {a : Nat} (h : ∀ i, i < ew img.length → aB g (a + i) = gg (eQ img i)) : (g.img.drop (64 * a)).take img.length = img := by
 apply List.ext_getElem?
 intro i
 rw [List.getElem?_take]
 split
 ·rename_i hi
  have hk : i / 64 < ew img.length := by unfold ew; omega
  have hp : (aB g (a + i / 64))[i % 64]? = (gg (eQ img (i / 64)))[i % 64]? := by rw [h (i / 64) hk]
  unfold aB at hp
  rw [List.getElem?_take, iP (Nat.mod_lt _ oM), List.getElem?_drop] at hp
  rw [List.getElem?_drop, show 64 * a + i = 64 * (a + i / 64) + i % 64 by omega, hp]
  unfold gg eQ
  have hl : i % 64 < (List.take 64 (List.drop (64 * (i / 64)) img)).length := by rw [List.length_take, List.length_drop]; omega
  rw [List.getElem?_append_left hl, List.getElem?_take, iP (Nat.mod_lt _ oM), List.getElem?_drop, show 64 * (i / 64) + i % 64 = i by omega]
 rename_i hi
 rw [List.getElem?_eq_none oM]
structure Rj (f : Fl) (s : St) (v : List Int) : Prop where
 sv : ej f s v none
 up : f.aF = false
 bu : s.bt = false
 br : s.af = false
 st : s.aj = s.an
theorem tT {fi bl : Nat} {sp : List eB} {v : List Int} (hs : ∀ p ∈ sp, p.ok) (he : cJ f fi bl sp = 0) (h : ej f (aJ f fi bl sp) v none) : Rj f (aJ f fi bl sp) v := by
 have hd := (jn he).1
 have hs := ko hs he
 exact ⟨h, hd, hs.re.2.2.2.2.2.2.2, hs.re.1, rfl⟩
theorem OI (h : f.up) {first : Nat} (hk : 1 ≤ k) (jG : k ≤ 8) (hw : first + (2 * k + 2) ≤ f.aq.length) (hp : 2 ≤ f.pg) (hi : Bytes img) (h2 : img.length ≤ aN f (2 * k + 2)) (v c : Int) : (iU f first (2 * k + 2) v c img).1.seq ≤ 1 := by
 obtain ⟨g1, g2, g3, g4, g5, g6, g7, _⟩ := ib h hw hk hi h2
 have hsz := ec h.ok jG
 have pZ : eC (eD f first (2 * k + 2) img) (first : Int) ((2 * k + 2 : Nat) : Int) = 0 := by
  unfold eC
  rw [iN (by rw [g1.dn]; decide), iN oM, iN (by rw [g3]; omega), iN (by rw [g2]; omega)]
 have oG := mi pZ (aN f (2 * k + 2))
 have dc := iB (n := aN f (2 * k + 2)) oM
 have dV : ∀ x, first * (eD f first (2 * k + 2) img).pg ≤ x → x < (first + 2) * (eD f first (2 * k + 2) img).pg → aB (eD f first (2 * k + 2) img) x = cM := fun x h1 h2 => by
  rw [g2] at h1 h2
  have : (first + 2) * f.pg ≤ (first + (2 * k + 2)) * f.pg := Nat.mul_le_mul_right _ oM
  rw [g5, iN oM, iP oM]
 obtain ⟨-, -, -, -, -, -, -, -, -, -, YE, -⟩ := ej.EJ g1.ok dV dc oG
 unfold iU xQ
 have e := oc (aV (aV (aV (aJ (eD f first (2 * k + 2) img) first 2 (aH (aN f (2 * k + 2)))) 3 v) 4 (img.length : Int)) 5 c) (eD f first (2 * k + 2) img)
 rw [mg, mg, mg, YE] at e
 exact e
structure GL (g : Fl) (first k : Nat) (b : Bk) (v : Int) (img : List Int) : Prop where
 up : g.up
 oe : dR g (first : Int) ((2 * k + 2 : Nat) : Int) = 0
 ob : dI g (first : Int) ((2 * k + 2 : Nat) : Int) = b
 YF : eC g (first : Int) ((2 * k + 2 : Nat) : Int) = 0
 nb : b = pT b.st first (2 * k + 2)
 ok : bS g b
 fr : Rj g b.st [0, 2, 0, v, (img.length : Int), eS img, 0, 0, 0]
 sq : b.st.seq ≤ 2
 im : fv g b 0 img.length = img
theorem F4 (h : f.up) {first : Nat} (hk : 1 ≤ k) (jG : k ≤ 8) (hw : first + (2 * k + 2) ≤ f.aq.length) (hp : 2 ≤ f.pg) (hi : Bytes img) (h1 : 1 ≤ img.length) (h2 : img.length ≤ aN f (2 * k + 2)) {v : Int} (hv : 1 ≤ v ∧ v ≤ 1073741824) :
 GL (iU f first (2 * k + 2) v (eS img) img).2.1 first k (dI (iU f first (2 * k + 2) v (eS img) img).2.1 first ((2 * k + 2 : Nat) : Int)) v img ∧ eo f (iU f first (2 * k + 2) v (eS img) img).2.1 ∧ (iU f first (2 * k + 2) v (eS img) img).2.1.az = f.az := by
 have hc := l6 img
 have fd := wy h hk jG hw hp hi h1 h2 hv (c := eS img) ⟨hc.1, by have := hc.2; omega⟩
 have rN := OI h hk jG hw hp hi h2 v (eS img)
 obtain ⟨g1, g2, g3, g4, g5, g6, g7, _⟩ := ib h hw hk hi h2
 have ab3 : aN (eD f first (2 * k + 2) img) (2 * k + 2) = aN f (2 * k + 2) := by unfold aN; rw [g2]
 have ka : eo (eD f first (2 * k + 2) img) (iU f first (2 * k + 2) v (eS img) img).2.1 := ju _ _
 have VP : (iU f first (2 * k + 2) v (eS img) img).2.1.az = (eD f first (2 * k + 2) img).az := by
  unfold iU aA
  split
  ·rfl
  exact vy _ _ _
 have VF : bD (eD f first (2 * k + 2) img) (xQ (eD f first (2 * k + 2) img) first (aN f (2 * k + 2)) v img.length (eS img)) :=
  eH (eH (eH (kz fd.ok fd.op) (by unfold dH; omega)) (by have := ec h.ok jG; unfold dH; omega)) (by have := hc.1; have := hc.2; unfold dH; omega)
 have qT : ∀ x, (first + 2) * f.pg ≤ x → aB (iU f first (2 * k + 2) v (eS img) img).2.1 x = aB (eD f first (2 * k + 2) img) x := fun x hx => by
  refine (ue g1.ok VF (.inr ?_)).1
  have e1 : (xQ (eD f first (2 * k + 2) img) first (aN f (2 * k + 2)) v img.length (eS img)).first = first := by
   unfold xQ
   rw [(eG _ _ _).first, (eG _ _ _).first, (eG _ _ _).first]
   exact (ko fd.ok fd.op).kp.f
  have e2 : (xQ (eD f first (2 * k + 2) img) first (aN f (2 * k + 2)) v img.length (eS img)).aa = 2 := by
   unfold xQ
   rw [(eG _ _ _).aa, (eG _ _ _).aa, (eG _ _ _).aa]
   exact (ko fd.ok fd.op).kp.b
  rw [e1, e2, g2]
  exact hx
 obtain ⟨q, hq⟩ := ex (iU f first (2 * k + 2) v (eS img) img)
 have gM := fd.up
 have fB := fd.sv
 have gT := fd.sp
 have lX := fd.fi
 have cB := fd.bl
 rw [hq] at rN ka VP qT gM fB gT lX cB ⊢
 obtain ⟨N, hN⟩ := ex (aN f (2 * k + 2))
 have iA : q.2.1.pg = f.pg := ka.p.trans g2
 have lG : q.2.1.aq.length = f.aq.length := ka.w.trans g3
 have hNq : aN q.2.1 (2 * k + 2) = N := by unfold aN; rw [iA, ← hN]; rfl
 have pZ : eC q.2.1 (first : Int) ((2 * k + 2 : Nat) : Int) = 0 := by
  unfold eC
  rw [iN (by rw [gM.dn]; decide), iN oM, iN (by rw [lG]; omega), iN (by rw [iA]; omega)]
 rw [hN] at gT h2
 obtain ⟨o1, o2, o3, o4, o5, o6⟩ := Ec fB gM.dn gT lX cB
 have Lq : dI q.2.1 (first : Int) ((2 * k + 2 : Nat) : Int) = pT (aJ q.2.1 first 2 (aH N)) first (2 * k + 2) := by
  unfold dI
  rw [Int.toNat_natCast, Int.toNat_natCast, hNq]
 have Lz := oJ gM.ok pZ
 rw [Lq] at Lz ⊢
 have Im : (aJ q.2.1 first 2 (aH N)).seq ≤ 2 := by
  have dV : aR q.2.1 = q.2.1 := by unfold aR; rw [iN (by rw [gM.dn]; decide)]
  obtain ⟨_, a2, _⟩ := gB.again (n := 1) ⟨⟨_, _, fB⟩, rN⟩ (by rw [gT]; exact ia N)
  rw [dV, gT, lX, cB] at a2
  exact a2.2
 have aah : ∀ p ∈ aH N, p.ok := by have := fd.ok; rw [hN] at this; exact this
 refine ⟨⟨gM, ?_, Lq, pZ, rfl, Lz, tT aah o1 o2, Im, ?_⟩, ⟨iA, lG⟩, VP.trans g4⟩
 ·unfold dR
  rw [iN (by rw [pZ]; decide), Int.toNat_natCast, Int.toNat_natCast, hNq]
  simp only [o3]
  rw [iN]
  show ¬ ((img.length : Nat) : Int) = 0
  omega
 unfold fv
 have Wv : cI (pT (aJ q.2.1 first 2 (aH N)) first (2 * k + 2)) 0 = first + 2 := by unfold cI; rw [Nat.zero_mul]; rfl
 rw [Wv, iA]
 refine zN fun i hi => ?_
 rw [qT _ oM, g5, iP oM, Nat.add_sub_cancel_left]
theorem RK (h : bS f b) : (ar b f).st.af = false ∨ (ar b f).af = true := by
 rcases h.br with e | e
 ·exact .inl e
 exact .inr (by show (b.af || f.aF) = true; rw [e]; rfl)
theorem gX (h : bS f b) : bS f (ar b f) :=
 ⟨h.ok, h.sp, h.fi, h.bl, h.lg, RK h, h.bk, h.k1, h.k8, h.fw, h.pg, h.av, h.dst, h.DL, h.len, h.cH, h.er, h.dt, h.page⟩
theorem fV (h : (ar b f).af = false) : b.af = false ∧ f.aF = false := by
 have : (b.af || f.aF) = false := h
 simpa using this
theorem bS.Kt (h : bS f b) (hb : b.af = false) : b.st.af = false := by
 rcases h.br with e | e
 ·exact e
 rw [hb] at e; cases e
theorem bS.RC (h : bS f b) : b.st.ax.length = 9 := by rw [h.sp]; rfl
theorem bS.ne (h : bS f b) : ∀ d, b.data = some d → d ≠ [] := fun d hd e => by
 have := (h.dt d hd).1
 rw [e] at this
 simp at this
section
variable {w0 w w1 w' : World} {L L' : Lc} {S S' : Sc} {K K' : Kc} {f f' : Fl} {b b' : Bk}
theorem nt.then (h : bY w w1 L S K L' S' K') (k : nt w0 w1 L' S' K' f b w') : nt w0 w L S K f b w' := by
 obtain ⟨L2, S2, K2, h1, h2⟩ := k
 exact ⟨L2, S2, K2, h.trans h1, h2⟩
theorem nt.mk' (h : bY w w' L S K L' S' K') (k : bo w0 w' L' S' K' f b) : nt w0 w L S K f b w' := ⟨L', S', K', h, k⟩
theorem bY.dh (h : ah (fun g => g = K.D) w w') : bY w w' L S K L S K := bY.mT h rfl (fun g _ h => h)
theorem bo.lit (h : bo w0 w L S K f b) (cs : Array Value) (l : List Int) (hl : cs.toList = aw l) (W : World) (hW : w.alloc (.cells cs 3) = W) :
 bo w0 W L S K f b ∧ bY w W L S K L S K ∧ cn (bQ L S) W (some ⟨w.heap.size, 0, none⟩) (aw l) := by
 have hb : bW w W := by rw [← hW]; exact bV.alloc cV _
 refine ⟨h.ab hb, bY.ak hb, ?_⟩
 rw [← hW]
 refine KD (Rd.new w _ _ _ hl) (by rw [World.size_alloc]; exact Nat.le_refl _) (fun hx => ?_)
 have := h.st.dY _ (.inl hx)
 omega
theorem qZ (h : bo w0 w L S K f b) (ho : bD f b.st) (ii : Int) (i : Nat) (Nk : ii = i) (hi : i ≤ 9) (cs : Array Value) (l : List Int) (hl : cs.toList = aw l) (n : Nat) (hn : l.length = n) (YO : n ≤ 9) (dc : ls b.st i l) (hI : ∀ x ∈ l, dH x) :
 Calls prog 74 #[.pointer (some ⟨K.D, 0, none⟩), .int .i64 ii, .slice (some ⟨w.heap.size, 0, none⟩) n n] (w.alloc (.cells cs 3)) fun e w' => e = .returned .nilIface ∧ bo w0 w' L S K f { b with st := dC b.st i l } ∧ bY w w' L S K L S K := by
 obtain ⟨h1, h2, h3⟩ := h.lit cs l hl _ rfl
 refine (CB h1 ho ii i Nk hi hn YO h3 dc hI).mono ?_
 rintro e w' ⟨he, hk, hx⟩
 exact ⟨he, hk, h2.trans (bY.iQ hx rfl rfl)⟩
def Yz (w0 w : World) (L : Lc) (S : Sc) (K : Kc) (q : Bk × Fl × Int × Int) (e : Ending) (w' : World) : Prop :=
 e = .returned (.tuple #[.int .i64 q.2.2.1, fy q.2.2.2]) ∧ nt w0 w L S K q.2.1 q.1 w'
theorem yW (h : bo w0 w L S K f b) (ho : bS f b) : Calls prog 19 #[.pointer (some ⟨K.D, 0, none⟩)] w (Yz w0 w L S K (cz b f)) := by
 have g1 := ne_nil
 have g2 := fW
 have g3 := eq_nil
 have g4 := LX
 have HR := iD (fe h)
 have HO := iD (gX ho)
 have h9 := ho.RC
 by_cases cQ : (ar b f).af = true
 ·have HB : Hid (cz b f = (ar b f, f, 0, 20)) := by unfold cz; rw [Hid, iP cQ]
  rw [iP cQ, dJ (by decide)] at HR
  clear h ho cQ h9
  go_enter func19, ntmps19
  go_wp2_with (fail)
  refine HR.mono ?_
  rintro e w1 ⟨rfl, hK, hX⟩
  have HK := iD hK
  have HX := iD hX
  clear hK hX
  go_wp2
  go_ret2
  rw [HB]
  exact ⟨rfl, .mk' (.dh HX) HK⟩
 have jH : (ar b f).af = false := by simpa using cQ
 rw [iN cQ, bG] at HR
 have HU := iD (fV jH)
 have pF := iD (ho.Kt HU.1)
 by_cases hs : b.av ≠ 2
 ·have HB : Hid (cz b f = (ar b f, f, 0, 12)) := by unfold cz; rw [Hid, iN cQ, iP hs]
  have s1 : ¬ (b.av : Int) = 2 := oM
  have s2 : ((b.av : Int) == 2) = false := by simpa using s1
  clear h ho cQ h9 jH hs
  go_enter func19, ntmps19
  go_wp2_with (fail)
  refine HR.mono ?_
  rintro e w1 ⟨rfl, hK, hX⟩
  have HK := iD hK
  have HX := iD hX
  have c5 : w1.cell? ⟨K.D, 5, none⟩ = some (.int .i64 b.av) := hK.row 5 _ rfl
  clear hK hX
  go_wp2
  go_ret2
  rw [HB]
  exact ⟨rfl, .mk' (.dh HX) HK⟩
 have je : b.av = 2 := oM
 obtain ⟨va, vt, vk, v0, l0, c0, v1, l1, c1, hv, b1, b2, b3, -⟩ := ho.vec
 have Cf : aU b 0 = (va : Int) := by unfold aU; rw [hv]; rfl
 have iE : aU b 1 = (vt : Int) := by unfold aU; rw [hv]; rfl
 have jB : aU b 2 = (vk : Int) := by unfold aU; rw [hv]; rfl
 have J1 : Hid (aU (ar b f) 0 = (va : Int)) := Cf
 have uX : Hid (aU (ar b f) 1 = (vt : Int)) := iE
 have xU : Hid (aU (ar b f) 2 = (vk : Int)) := jB
 have jQ : Hid ((ar b f).st.ax.length = 9) := h9
 have AI := iD ho.sp
 by_cases ht : vt = 2
 ·have HB : Hid (cz b f = ({ ar b f with av := va }, f, (va : Int), 0)) := by
   unfold cz
   rw [Hid, iN cQ, iN hs, iE, iP oM, Cf, Int.toNat_natCast]
  subst ht
  clear h ho cQ h9 jH hs hv Cf iE jB
  go_enter func19, ntmps19
  go_wp2_with (fail)
  refine HR.mono ?_
  rintro e w1 ⟨rfl, hK, hX⟩
  have HK := iD hK
  have HX := iD hX
  have c5 : w1.cell? ⟨K.D, 5, none⟩ = some (.int .i64 b.av) := hK.row 5 _ rfl
  rw [je] at c5
  clear hK hX
  go_wp2_with (fail)
  refine (cy HK HO.ok 0 0 rfl (by rw [jQ]; omega)).mono ?_
  rintro e w2 ⟨rfl, hB⟩
  rw [J1]
  have fE := iD (HK.ab hB)
  have nr : Hid (bY w w2 L S K L S K) := (bY.dh HX).trans (bY.ak hB)
  clear hB
  go_wp2_with (fail)
  refine (cy fE HO.ok 1 1 rfl (by rw [jQ]; omega)).mono ?_
  rintro e w3 ⟨rfl, hB⟩
  rw [uX]
  have pq := iD (fE.ab hB)
  have G0 : Hid (bY w w3 L S K L S K) := nr.trans (bY.ak hB)
  have d5 : w3.cell? ⟨K.D, 5, none⟩ = some (.int .i64 b.av) := pq.row 5 _ rfl
  have z5 := pq.fz 5
  have HC := iD (pq.jX 5 (.int .i64 va) { ar b f with av := va } rfl rfl rfl rfl)
  clear hB
  go_wp2
  go_ret2
  rw [HB]
  exact ⟨rfl, .mk' (G0.trans (.dh HC.2)) HC.1⟩
 have hE : ∃ (i : Nat) (ii x run : Int) (rn : Nat), ii = i ∧ run = rn ∧ ((0 < vk ∧ i = 2 ∧ ii = 2 ∧ x = (vk : Int) - 1 ∧ run = vt ∧ rn = vt) ∨ (vk = 0 ∧ i = 1 ∧ ii = 1 ∧ x = 2 ∧ run = va ∧ rn = va)) ∧ ls b.st i [x] ∧ dH x ∧
  cz b f = if (aA (dC b.st i [x]) f).2.2 ≠ 0 then ({ ar b f with st := (aA (dC b.st i [x]) f).1, af := true }, (aA (dC b.st i [x]) f).2.1, 0, 20) else ({ ar b f with st := (aA (dC b.st i [x]) f).1, av := rn }, (aA (dC b.st i [x]) f).2.1, run, 0) := by
  by_cases hk : 0 < vk
  ·refine ⟨2, 2, (vk : Int) - 1, vt, vt, rfl, rfl, .inl ⟨hk, rfl, rfl, rfl, rfl, rfl⟩, ⟨(mN pF AI (i := 2) (p := ⟨0, 3, 0⟩) rfl ⟨by simp only; omega, by simp only; omega⟩).1, trivial⟩, by unfold dH; omega, ?_⟩
   unfold cz
   rw [iN cQ, iN hs, iE, iN oM, jB]
   simp only [iP (show (0 : Int) < (vk : Int) by omega), Int.toNat_natCast]
   rfl
  have A0 : vk = 0 := oM
  refine ⟨1, 1, 2, va, va, rfl, rfl, .inr ⟨A0, rfl, rfl, rfl, rfl, rfl⟩, ⟨(mN pF AI (i := 1) (p := ⟨0, 2, 2⟩) rfl ⟨by simp only; omega, by simp only; omega⟩).1, trivial⟩, by unfold dH; omega, ?_⟩
  unfold cz
  rw [iN cQ, iN hs, iE, iN oM, jB]
  simp only [iN (show ¬ (0 : Int) < (vk : Int) by omega), Cf, Int.toNat_natCast]
  rfl
 obtain ⟨i, ii, x, run, rn, Nk, hrn, kY, dc, Od, hBB⟩ := hE
 have ur := iD hBB
 have gV : Hid (ls (ar b f).st i [x]) := dc
 have acA := iD Od
 have XE : Hid (bD f (dC b.st i [x])) := lu ho.ok (fun y hy => by rw [List.mem_singleton] at hy; subst hy; exact Od)
 have JM : ¬ (vt : Int) = 2 := oM
 have Nb : ((vt : Int) == 2) = false := by simpa using JM
 have QW := iD hrn
 have Ox : i ≤ 9 := by rcases kY with h | h <;> omega
 have FS : Hid (∀ w4 : World, bo w0 w4 L S K f (ar b f) → Calls prog 74 #[.pointer (some ⟨K.D, 0, none⟩), .int .i64 ii, .slice (some ⟨w4.heap.size, 0, none⟩) 1 1] (w4.alloc (.cells #[.int .i64 x] 3)) fun e w' => e = .returned .nilIface ∧ bo w0 w' L S K f { ar b f with st := dC b.st i [x] } ∧ bY w4 w' L S K L S K) :=
  fun w4 hK => qZ hK ho.ok ii i Nk Ox #[.int .i64 x] [x] rfl 1 rfl oM dc (fun y hy => by rw [List.mem_singleton] at hy; subst hy; exact Od)
 obtain ⟨q, hq⟩ := ex (aA (dC b.st i [x]) f)
 have CM : Hid (∀ w5 : World, bM w0 w5 L S f (dC b.st i [x]) → Calls prog 67 #[.pointer (some ⟨S.D, 0, none⟩)] w5 (nc w0 w5 L S q)) := fun w5 hs => by
  have := wN hs XE
  rw [hq] at this
  exact this
 rw [hq] at ur
 obtain ⟨qs, qf, qe⟩ := q
 simp only at ur
 clear h ho cQ h9 jH hs hv Cf iE jB hBB dc Od hq Nk
 rcases kY with ⟨hk, rfl, rfl, rfl, rfl, rfl⟩ | ⟨hk, rfl, rfl, rfl, rfl, rfl⟩
 all_goals
  try (have xv : (0 : Int) < (vk : Int) := oM)
  go_enter func19, ntmps19
  go_wp2_with (fail)
  refine HR.mono ?_
  rintro e w1 ⟨rfl, hK, hX⟩
  have HK := iD hK
  have HX := iD hX
  have c5 : w1.cell? ⟨K.D, 5, none⟩ = some (.int .i64 b.av) := hK.row 5 _ rfl
  rw [je] at c5
  clear hK hX
  go_wp2_with (fail)
  refine (cy HK HO.ok 0 0 rfl (by rw [jQ]; omega)).mono ?_
  rintro e w2 ⟨rfl, hB⟩
  rw [J1]
  have fE := iD (HK.ab hB)
  have nr : Hid (bY w w2 L S K L S K) := (bY.dh HX).trans (bY.ak hB)
  clear hB c5
  go_wp2_with (fail)
  refine (cy fE HO.ok 1 1 rfl (by rw [jQ]; omega)).mono ?_
  rintro e w3 ⟨rfl, hB⟩
  rw [uX]
  have pq := iD (fE.ab hB)
  have G0 : Hid (bY w w3 L S K L S K) := nr.trans (bY.ak hB)
  clear hB
  go_wp2_with (fail)
  refine (cy pq HO.ok 2 2 rfl (by rw [jQ]; omega)).mono ?_
  rintro e w4 ⟨rfl, hB⟩
  rw [xU]
  have xC := iD (pq.ab hB)
  have JB : Hid (bY w w4 L S K L S K) := G0.trans (bY.ak hB)
  clear hB
  go_wp2_with (fail)
  refine (FS _ xC).mono ?_
  rintro e w5 ⟨rfl, hK, hA⟩
  have sc := iD hK
  have JA : Hid (bY w w5 L S K L S K) := JB.trans hA
  have c3 : w5.cell? ⟨K.D, 3, none⟩ = some (.pointer (some ⟨S.D, 0, none⟩)) := hK.row 3 _ rfl
  have uo := iD (CM _ hK.st)
  unfold nc at uo
  clear hK hA
  by_cases hq0 : qe = 0
  ·rw [iN (by rw [hq0]; decide)] at ur
   simp only at uo
   rw [hq0, bG] at uo
   clear hq0
   go_wp2_with (fail)
   refine uo.mono ?_
   rintro e w6 ⟨rfl, ⟨S6, Bd, Bb, Gm⟩, oH⟩
   have ov := iD (sc.prog Gm Bd Bb oH)
   have M0 : Hid (bY w w6 L S K L S6 K) := JA.trans (bY.iQ oH Bd Bb)
   have d5 : w6.cell? ⟨K.D, 5, none⟩ = some (.int .i64 b.av) := ov.row 5 _ rfl
   have z5 := ov.fz 5
   have HC := iD (ov.jX 5 (.int .i64 rn) { ar b f with st := qs, av := rn } rfl rfl rfl rfl)
   clear Bd Bb Gm oH c3
   go_wp2
   go_ret2
   rw [ur]
   exact ⟨rfl, .mk' (M0.trans (.dh HC.2)) HC.1⟩
  rw [iP hq0] at ur
  simp only at uo
  rw [dJ hq0] at uo
  clear hq0
  go_wp2_with (fail)
  refine uo.mono ?_
  rintro e w6 ⟨rfl, ⟨S6, Bd, Bb, Gm⟩, oH⟩
  have ov := iD (sc.prog Gm Bd Bb oH)
  have M0 : Hid (bY w w6 L S K L S6 K) := JA.trans (bY.iQ oH Bd Bb)
  clear Bd Bb Gm oH c3
  go_wp2_with (fail)
  refine (oL ov).mono ?_
  rintro e w7 ⟨rfl, hK, hX⟩
  have Tw := iD hK
  have TN : Hid (bY w w7 L S K L S6 K) := M0.trans (.dh hX)
  clear hK hX
  go_wp2
  go_ret2
  rw [ur]
  exact ⟨rfl, .mk' TN Tw⟩
end
theorem OX (c d : Int) (w : World) : (binOp .eql 57 (.iface 108 (.int .i64 c)) (.iface 108 (.int .i64 d))).run prog w = .ok (.bool (c == d)) w := by kernel_rfl
section
variable {w0 w w1 w' : World} {L L' : Lc} {S S' : Sc} {K K' : Kc} {f f' : Fl} {b b' : Bk}
def xp (w0 w : World) (L : Lc) (S : Sc) (K : Kc) (f : Fl) (q : Bk × Int) (e : Ending) (w' : World) : Prop :=
 e = .returned (fy q.2) ∧ nt w0 w L S K f q.1 w'
theorem EM (h : bo w0 w L S K f b) : Calls prog 43 #[.pointer (some ⟨K.D, 0, none⟩)] w (xp w0 w L S K f (ei b f)) := by
 have g1 := ne_nil
 have g2 := fW
 have HR := iD (fe h)
 by_cases cQ : (ar b f).af = true
 ·have HB : Hid (ei b f = (ar b f, 20)) := by unfold ei; rw [Hid, iP cQ]
  rw [iP cQ, dJ (by decide)] at HR
  clear h cQ
  go_enter func43, ntmps43
  go_wp2_with (fail)
  refine HR.mono ?_
  rintro e w1 ⟨rfl, hK, hX⟩
  have HK := iD hK
  have HX := iD hX
  clear hK hX
  go_wp2
  go_ret
  rw [HB]
  exact ⟨rfl, .mk' (.dh HX) HK⟩
 rw [iN cQ, bG] at HR
 by_cases hu : b.au = false
 ·have HB : Hid (ei b f = (ar b f, 12)) := by unfold ei; rw [Hid, iN cQ, iP hu]
  clear h cQ
  go_enter func43, ntmps43
  go_wp2_with (fail)
  refine HR.mono ?_
  rintro e w1 ⟨rfl, hK, hX⟩
  have HK := iD hK
  have HX := iD hX
  have c6 : w1.cell? ⟨K.D, 6, none⟩ = some (.bool b.au) := hK.row 6 _ rfl
  rw [hu] at c6
  clear hK hX hu
  go_wp2
  go_ret
  rw [HB]
  exact ⟨rfl, .mk' (.dh HX) HK⟩
 have RZ : b.au = true := by simpa using hu
 have HB : Hid (ei b f = ({ ar b f with au := false, erase := [], data := none }, 0)) := by unfold ei; rw [Hid, iN cQ, iN hu]
 clear h cQ hu
 go_enter func43, ntmps43
 go_wp2_with (fail)
 refine HR.mono ?_
 rintro e w1 ⟨rfl, hK, hX⟩
 have HK := iD hK
 have HX := iD hX
 have c6 : w1.cell? ⟨K.D, 6, none⟩ = some (.bool b.au) := hK.row 6 _ rfl
 rw [RZ] at c6
 have uq := iD (HK.jX 6 (.bool false) { ar b f with au := false } rfl rfl rfl rfl)
 have Dk := iD (uq.1.cell 11 (.slice none 0 0) { K with v := .slice none 0 0 } { ar b f with au := false, erase := [] } rfl rfl rfl (QS.nil _ _ _) (fun g hg => by cases hg) uq.1.dt)
 have vb := iD (Dk.1.cell 13 (.slice none 0 0) { K with v := .slice none 0 0, A := none, n := 0, c := 0 } { ar b f with au := false, erase := [], data := none } rfl rfl rfl (QS.nil _ _ _) (fun g hg => by cases hg) ⟨rfl, rfl, rfl⟩)
 have z6 := hK.fz 6
 have Kd := hK.fz 11
 have Kb := hK.fz 13
 have rS : w1.cell? ⟨K.D, 11, none⟩ = some K.v := hK.row 11 _ rfl
 have Dy : w1.cell? ⟨K.D, 13, none⟩ = some (.slice K.A K.n K.c) := hK.row 13 _ rfl
 clear hK hX RZ
 go_wp2
 go_ret
 rw [HB]
 refine ⟨rfl, L, S, { K with v := .slice none 0 0, A := none, n := 0, c := 0 }, ?_, vb.1⟩
 exact (bY.dh HX).trans ((bY.dh uq.2).trans ((bY.mT Dk.2 (K' := { K with v := .slice none 0 0 }) rfl (fun g _ hg => by cases hg)).trans (bY.mT vb.2 rfl (fun g _ hg => hg))))
theorem EH (h : bo w0 w L S K f b) (ho : bS f b) : Calls prog 70 #[.pointer (some ⟨K.D, 0, none⟩)] w fun e w' => e = .returned (.tuple #[.int .i64 (aU b 1), .int .i64 (aU b 2)]) ∧ bW w w' := by
 have e1 := rj K.D
 have HK := iD h
 have HO := iD ho
 have H9 := iD ho.RC
 clear h ho
 go_enter func70, ntmps70
 go_wp2_with (fail)
 refine (cy HK HO.ok 1 1 rfl (by rw [H9]; omega)).mono ?_
 rintro e w2 ⟨rfl, hB⟩
 have fE := iD (HK.ab hB)
 have fK := iD hB
 clear hB
 go_wp2_with (fail)
 refine (cy fE HO.ok 2 2 rfl (by rw [H9]; omega)).mono ?_
 rintro e w3 ⟨rfl, hB⟩
 have jd : Hid (bW w w3) := fK.trans (hB.mono fK.size)
 clear hB
 go_wp2
 go_ret2
 exact ⟨rfl, jd⟩
def sA (b : Bk) : Int × Int := if b.av = 2 then (2, 0) else ((b.av : Int), aU b (3 + 3 * b.av))
theorem rh (h : bo w0 w L S K f b) (ho : bS f b) : Calls prog 21 #[.pointer (some ⟨K.D, 0, none⟩)] w fun e w' => e = .returned (.tuple #[.int .i64 (sA b).1, .int .i64 (sA b).2]) ∧ bW w w' := by
 have e1 := rj K.D
 have c5 := h.row 5 _ rfl
 have HK := iD h
 by_cases hs : b.av = 2
 ·have HR : Hid (sA b = (2, 0)) := by unfold sA; rw [Hid, iP hs]
  rw [hs] at c5
  clear h ho hs
  go_enter func21, ntmps21
  go_wp2
  go_ret2
  rw [HR]
  exact ⟨rfl, Below.refl _ _⟩
 have HR : Hid (sA b = ((b.av : Int), aU b (3 + 3 * b.av))) := by unfold sA; rw [Hid, iN hs]
 have je := ho.av
 have uB : b.av ≤ 1 := oM
 obtain ⟨s, Ci⟩ := ex b.av
 have H9 := iD ho.RC
 have HO := iD ho
 rw [Ci] at c5 uB HR
 have R6 : ¬ (s : Int) = 2 := oM
 have hs5 : ((s : Int) == 2) = false := by simpa using R6
 have q1 : IntKind.i64.wrap (3 * (s : Int)) = 3 * (s : Int) := IntWalk.i64_in _ oM
 have q2 : IntKind.i64.wrap (3 + 3 * (s : Int)) = 3 + 3 * (s : Int) := IntWalk.i64_in _ oM
 have iJ : Hid (∀ W, bW w W → W.cell? ⟨K.D, 5, none⟩ = some (.int .i64 s)) := fun W hB => by have := (HK.ab hB).row 5 _ rfl; rw [Ci] at this; exact this
 have HS : Hid (∀ W, bW w W → Calls prog 68 #[.pointer (some ⟨K.D, 0, none⟩), .int .i64 (3 + 3 * (s : Int))] W fun e w' => e = .returned (.int .i64 (aU b (3 + 3 * s))) ∧ bW w w') := fun W hB => by
  refine (cy (HK.ab hB) HO.ok (3 + 3 * (s : Int)) (3 + 3 * s) (by push_cast; rfl) (by rw [H9]; omega)).mono ?_
  rintro e w' ⟨he, hb⟩
  exact ⟨he, hB.trans (hb.mono hB.size)⟩
 clear h ho hs Ci je
 go_enter func21, ntmps21
 go_wp2_with (fail)
 go_region_held3 (fun w' => w'.cell? ⟨K.D, 5, none⟩ = some (.int .i64 s)) (first | go_keep | exact iJ _ jI) (first
  | (go_at_call 68; refine (HS _ (by repeat (first | exact Below.refl _ _ | refine Below.drew ?_ | refine Below.drewN ?_ _))).mono ?_; rintro e wp ⟨rfl, jI⟩))
 all_goals
  go_wp2
  go_ret2
  rw [HR]
  exact ⟨rfl, jI⟩
theorem pM (s : St) (i v : Int) : (aV s i v).af = s.af ∧ (aV s i v).bt = s.bt ∧ (aV s i v).seq = s.seq ∧ (aV s i v).an = s.an ∧ (aV s i v).ax = s.ax ∧ (aV s i v).aj.length = s.aj.length ∧ (aV s i v).first = s.first ∧ (aV s i v).aa = s.aa := by
 unfold aV
 split
 ·exact ⟨rfl, rfl, rfl, rfl, rfl, List.length_set .., rfl, rfl⟩
 exact ⟨rfl, rfl, rfl, rfl, rfl, rfl, rfl, rfl⟩
theorem gW : ∀ (l : List Int) (s : St) (i : Nat), (dC s i l).af = s.af ∧ (dC s i l).bt = s.bt ∧ (dC s i l).seq = s.seq ∧ (dC s i l).an = s.an ∧ (dC s i l).ax = s.ax ∧ (dC s i l).aj.length = s.aj.length ∧ (dC s i l).first = s.first ∧ (dC s i l).aa = s.aa
 | [], s, i => ⟨rfl, rfl, rfl, rfl, rfl, rfl, rfl, rfl⟩
 | v :: l, s, i => by
  obtain ⟨a1, a2, a3, a4, a5, a6, a7, a8⟩ := gW l (aV s i v) (i + 1)
  obtain ⟨b1, b2, b3, b4, b5, b6, b7, b8⟩ := pM s i v
  exact ⟨a1.trans b1, a2.trans b2, a3.trans b3, a4.trans b4, a5.trans b5, a6.trans b6, a7.trans b7, a8.trans b8⟩
theorem wW (h1 : s.af = false) (h2 : f.aF = false) (h3 : s.bt = false) (h4 : 0 ≤ s.seq) (h5 : s.seq ≤ 1000000) (h6 : s.aj.length = 9) : aO s f = 0 ∨ aO s f = 12 := by
 unfold aO
 rw [h1, h2, iN (by decide), h3, iN (by decide)]
 split
 ·exact .inr rfl
 left
 unfold fX
 rw [iN oM]
theorem CC (h : bo w0 w L S K f b) (ho : bD f b.st) (he : aO b.st f = 0 ∨ aO b.st f = 12) : Calls prog 89 #[.pointer (some ⟨K.D, 0, none⟩)] w fun e w' => e = .returned .nilIface ∧ nt w0 w L S K f (jx b b.st f) w' := by
 have g1 := ne_nil
 have g2 := fW
 have g3 := eq_nil
 have g4 := LX
 have g5 := OX 12 12
 have c3 := h.row 3 _ rfl
 have HK := iD h
 have HB := iD (za h.st ho)
 unfold qw at HB
 rcases he with he | he
 ·have HR : Hid (jx b b.st f = { b with st := aZ b.st f, bh := true }) := by unfold jx; rw [Hid, iP he]
  rw [he, bG] at HB
  clear h ho he
  go_enter func89, ntmps89
  go_wp2_with (fail)
  refine HB.mono ?_
  rintro e w1 ⟨rfl, ⟨S1, Be, ub, gC⟩, ng⟩
  have J6 := iD (HK.prog gC Be ub ng)
  have HA1 : Hid (bY w w1 L S K L S1 K) := bY.iQ ng Be ub
  have Mj : w1.cell? ⟨K.D, 14, none⟩ = some (.bool b.bh) := J6.row 14 _ rfl
  have G3 := J6.fz 14
  have HC := iD (J6.jX 14 (.bool true) { b with st := aZ b.st f, bh := true } rfl rfl rfl rfl)
  clear gC Be ub ng c3
  go_wp2
  go_ret
  rw [HR]
  exact ⟨rfl, .mk' (HA1.trans (.dh HC.2)) HC.1⟩
 have HR : Hid (jx b b.st f = { b with st := aZ b.st f }) := by unfold jx; rw [Hid, iN (by rw [he]; decide)]
 rw [he, dJ (by decide)] at HB
 clear h ho he
 go_enter func89, ntmps89
 go_wp2_with (fail)
 refine HB.mono ?_
 rintro e w1 ⟨rfl, ⟨S1, Be, ub, gC⟩, ng⟩
 have J6 := iD (HK.prog gC Be ub ng)
 have HA1 : Hid (bY w w1 L S K L S1 K) := bY.iQ ng Be ub
 clear gC Be ub ng c3
 go_wp2
 go_ret
 rw [HR]
 exact ⟨rfl, .mk' HA1 J6⟩
theorem Ae (h : bo w0 w L S K f b) (ho : bS f b) (lj : b.af = false → b.bh = false → b.st.bt = false) (rN : b.st.seq ≤ 1000000) : Calls prog 45 #[.pointer (some ⟨K.D, 0, none⟩)] w (xp w0 w L S K f (bJ b f)) := by
 have g1 := ne_nil
 have g2 := fW
 have HR := iD (fe h)
 have HO := iD (gX ho)
 have h9 := ho.RC
 by_cases cQ : (ar b f).af = true
 ·have HB : Hid (bJ b f = (ar b f, 20)) := by unfold bJ; rw [Hid, iP cQ]
  rw [iP cQ, dJ (by decide)] at HR
  clear h ho cQ lj rN h9
  go_enter func45, ntmps45
  go_wp2_with (fail)
  refine HR.mono ?_
  rintro e w1 ⟨rfl, hK, hX⟩
  have HK := iD hK
  have HX := iD hX
  clear hK hX
  go_wp2
  go_ret
  rw [HB]
  exact ⟨rfl, .mk' (.dh HX) HK⟩
 have jH : (ar b f).af = false := by simpa using cQ
 rw [iN cQ, bG] at HR
 have HU := iD (fV jH)
 have pF := iD (ho.Kt HU.1)
 by_cases hs : b.av = 2
 ·have HB : Hid (bJ b f = (ar b f, 12)) := by unfold bJ; rw [Hid, iN cQ, iP (.inl hs)]
  clear h ho cQ h9 jH lj rN
  go_enter func45, ntmps45
  go_wp2_with (fail)
  refine HR.mono ?_
  rintro e w1 ⟨rfl, hK, hX⟩
  have HK := iD hK
  have HX := iD hX
  have c5 : w1.cell? ⟨K.D, 5, none⟩ = some (.int .i64 b.av) := hK.row 5 _ rfl
  rw [hs] at c5
  clear hK hX hs
  go_wp2_with (fail)
  go_quiet (fail)
  go_wp2
  go_ret
  rw [HB]
  exact ⟨rfl, .mk' ((bY.dh HX).trans (bY.ak (Below.drewN bV _))) (HK.ab (Below.drewN bV _))⟩
 obtain ⟨va, vt, vk, v0, l0, c0, v1, l1, c1, hv, b1, b2, b3, -⟩ := ho.vec
 have iE : aU b 1 = (vt : Int) := by unfold aU; rw [hv]; rfl
 have uX : Hid (aU (ar b f) 1 = (vt : Int)) := iE
 have jQ : Hid ((ar b f).st.ax.length = 9) := h9
 have AI := iD ho.sp
 have je := ho.av
 obtain ⟨s, Ci⟩ := ex b.av
 rw [Ci] at hs je
 have uB : s ≤ 1 := oM
 have R6 : ¬ (s : Int) = 2 := oM
 have hs5 : ((s : Int) == 2) = false := by simpa using R6
 have ze := iD Ci
 have TK : Hid (∀ w1 : World, bo w0 w1 L S K f (ar b f) → w1.cell? ⟨K.D, 5, none⟩ = some (.int .i64 s) ∧ (∀ W, bW w1 W → W.cell? ⟨K.D, 5, none⟩ = some (.int .i64 s)) ∧ ∀ W, bW w1 W → Calls prog 68 #[.pointer (some ⟨K.D, 0, none⟩), .int .i64 1] W fun e w' => e = .returned (.int .i64 vt) ∧ bW w1 w') := fun w1 hK => by
  refine ⟨?_, fun W hB => ?_, fun W hB => ?_⟩
  ·have := hK.row 5 _ rfl
   rw [show (ar b f).av = s from Ci] at this
   exact this
  ·have := (hK.ab hB).row 5 _ rfl
   rw [show (ar b f).av = s from Ci] at this
   exact this
  refine (cy (hK.ab hB) HO.ok 1 1 rfl (by rw [jQ]; omega)).mono ?_
  rintro e w' ⟨he, hb⟩
  rw [uX] at he
  exact ⟨he, hB.trans (hb.mono hB.size)⟩
 by_cases R0 : vt = s
 ·subst R0
  have tr : Hid (∀ d, (ar b f).data = some d → d ≠ []) := ho.ne
  by_cases hw : bO b = true
  ·have jP : Hid (bO (ar b f) = true) := hw
   have HB : Hid (bJ b f = (ar b f, 14)) := by unfold bJ; rw [Hid, iN cQ, iN (by rw [iE, Ci]; omega), iP hw]
   clear h ho cQ h9 jH lj rN hv iE Ci hs je hw
   go_enter func45, ntmps45
   go_wp2_with (fail)
   refine HR.mono ?_
   rintro e w1 ⟨rfl, hK, hX⟩
   have HK := iD hK
   have HX := iD hX
   obtain ⟨c5, mu, Cu⟩ := TK w1 hK
   have iJ := iD mu
   have PN := iD Cu
   clear hK hX mu Cu
   go_wp2_with (fail)
   go_region_held3 (fun w' => w'.cell? ⟨K.D, 5, none⟩ = some (.int .i64 vt)) (first | go_keep | exact iJ _ jI) (first
    | (go_at_call 68; refine (PN _ (by repeat (first | exact Below.refl _ _ | refine Below.drew ?_ | refine Below.drewN ?_ _))).mono ?_; rintro e wp ⟨rfl, jI⟩))
   all_goals
    have fE := iD (HK.ab jI)
    have nr : Hid (bY w wp L S K L S K) := (bY.dh HX).trans (bY.ak jI)
    have d5 : wp.cell? ⟨K.D, 5, none⟩ = some (.int .i64 vt) := iJ _ jI
    clear jI c5
    go_wp2_with (fail)
    refine (dF fE tr).mono ?_
    rintro e w3 ⟨rfl, rfl⟩
    rw [jP]
    go_wp2
    go_ret
    rw [HB]
    exact ⟨rfl, .mk' nr fE⟩
  have xt : bO b = false := by simpa using hw
  have jP : Hid (bO (ar b f) = false) := xt
  have HB : Hid (bJ b f = (jx (ar b f) (kQ b) f, 0)) := by unfold bJ; rw [Hid, iN cQ, iN (by rw [iE, Ci]; omega), iN hw]
  have xM : b.bh = false := by unfold bO at xt; simp only [Bool.or_eq_false_iff] at xt; exact xt.2
  have nS := lj HU.1 xM
  have dc : ls b.st 0 [(vt : Int), 2, 0] := by
   obtain ⟨x1, x2⟩ := mN pF AI (i := 0) (p := ⟨0, 1, 0⟩) (v := (vt : Int)) rfl ⟨by simp only; omega, by simp only; omega⟩
   obtain ⟨y1, y2⟩ := mN (s := aV b.st ((0 : Nat) : Int) (vt : Int)) (by rw [x2]; exact pF) (by rw [x2]; exact AI) (i := 1) (p := ⟨0, 2, 2⟩) (v := 2) rfl ⟨by simp only; omega, by simp only; omega⟩
   obtain ⟨z1, z2⟩ := mN (s := aV (aV b.st ((0 : Nat) : Int) (vt : Int)) ((1 : Nat) : Int) 2) (by rw [y2, x2]; exact pF) (by rw [y2, x2]; exact AI) (i := 2) (p := ⟨0, 3, 0⟩) (v := 0) rfl ⟨by simp only; omega, by simp only; omega⟩
   exact ⟨x1, y1, z1, trivial⟩
  have hI : ∀ x ∈ [(vt : Int), 2, 0], dH x := fun x hx => by
   simp only [List.mem_cons, List.not_mem_nil, or_false] at hx
   rcases hx with rfl | rfl | rfl <;> (unfold dH; omega)
  have kY : kQ b = dC b.st 0 [(vt : Int), 2, 0] := by unfold kQ; rw [Ci]
  have XE : Hid (bD f (kQ b)) := by rw [Hid, kY]; exact lu ho.ok hI
  have FS : Hid (∀ w4 : World, bo w0 w4 L S K f (ar b f) → Calls prog 74 #[.pointer (some ⟨K.D, 0, none⟩), .int .i64 0, .slice (some ⟨w4.heap.size, 0, none⟩) 3 3] (w4.alloc (.cells #[.int .i64 vt, .int .i64 2, .int .i64 0] 3)) fun e w' => e = .returned .nilIface ∧ bo w0 w' L S K f { ar b f with st := kQ b } ∧ bY w4 w' L S K L S K) := fun w4 hK => by
   rw [kY]
   exact qZ hK ho.ok 0 0 rfl oM #[.int .i64 vt, .int .i64 2, .int .i64 0] [(vt : Int), 2, 0] rfl 3 rfl oM dc hI
  have FRC : Hid (∀ w5 : World, bo w0 w5 L S K f { ar b f with st := kQ b } → Calls prog 89 #[.pointer (some ⟨K.D, 0, none⟩)] w5 fun e w' => e = .returned .nilIface ∧ nt w0 w5 L S K f (jx (ar b f) (kQ b) f) w') := fun w5 hK => by
   obtain ⟨k1, k2, k3, k4, k5, k6, -, -⟩ := gW [(vt : Int), 2, 0] b.st 0
   rw [← kY] at k1 k2 k3 k6
   exact CC hK XE (wW (k1.trans pF) HU.2 (k2.trans nS) (by show 0 ≤ (kQ b).seq; rw [k3]; exact ho.ok.q1) (by show (kQ b).seq ≤ 1000000; rw [k3]; exact rN) (k6.trans (by rw [ho.ok.tl]; exact h9)))
  clear h ho cQ h9 jH lj rN hv iE Ci hs je hw xt xM nS dc hI kY
  go_enter func45, ntmps45
  go_wp2_with (fail)
  refine HR.mono ?_
  rintro e w1 ⟨rfl, hK, hX⟩
  have HK := iD hK
  have HX := iD hX
  obtain ⟨c5, mu, Cu⟩ := TK w1 hK
  have iJ := iD mu
  have PN := iD Cu
  clear hK hX mu Cu
  go_wp2_with (fail)
  go_region_held3 (fun w' => w'.cell? ⟨K.D, 5, none⟩ = some (.int .i64 vt)) (first | go_keep | exact iJ _ jI) (first
   | (go_at_call 68; refine (PN _ (by repeat (first | exact Below.refl _ _ | refine Below.drew ?_ | refine Below.drewN ?_ _))).mono ?_; rintro e wp ⟨rfl, jI⟩))
  all_goals
   have fE := iD (HK.ab jI)
   have nr : Hid (bY w wp L S K L S K) := (bY.dh HX).trans (bY.ak jI)
   have d5 : wp.cell? ⟨K.D, 5, none⟩ = some (.int .i64 vt) := iJ _ jI
   clear jI c5
   go_wp2_with (fail)
   refine (dF fE tr).mono ?_
   rintro e w3 ⟨rfl, rfl⟩
   rw [jP]
   go_wp2_with (fail)
   refine (FS _ fE).mono ?_
   rintro e w4 ⟨rfl, hK, hA⟩
   have JB : Hid (bY w w4 L S K L S K) := nr.trans hA
   have HF4 := iD (FRC _ hK)
   clear hK hA d5
   go_wp2_with (fail)
   refine HF4.mono ?_
   rintro e w5 ⟨rfl, hk⟩
   have sc := iD hk
   clear hk
   go_wp2
   go_ret
   rw [HB]
   exact ⟨rfl, .then JB sc⟩
 have HB : Hid (bJ b f = (ar b f, 12)) := by unfold bJ; rw [Hid, iN cQ, iP (.inr (by rw [iE, Ci]; omega))]
 have JM : ¬ (vt : Int) = (s : Int) := oM
 have Nb : ((vt : Int) == (s : Int)) = false := by simpa using JM
 clear h ho cQ h9 jH lj rN hv iE Ci hs je R0
 go_enter func45, ntmps45
 go_wp2_with (fail)
 refine HR.mono ?_
 rintro e w1 ⟨rfl, hK, hX⟩
 have HK := iD hK
 have HX := iD hX
 obtain ⟨c5, mu, Cu⟩ := TK w1 hK
 have iJ := iD mu
 have PN := iD Cu
 clear hK hX mu Cu
 go_wp2_with (fail)
 go_region_held3 (fun w' => w'.cell? ⟨K.D, 5, none⟩ = some (.int .i64 s)) (first | go_keep | exact iJ _ jI) (first
  | (go_at_call 68; refine (PN _ (by repeat (first | exact Below.refl _ _ | refine Below.drew ?_ | refine Below.drewN ?_ _))).mono ?_; rintro e wp ⟨rfl, jI⟩))
 all_goals
  go_wp2
  go_ret
  rw [HB]
  exact ⟨rfl, .mk' ((bY.dh HX).trans (bY.ak jI)) (HK.ab jI)⟩
end
theorem G8 (l : List Int) (a j : Nat) : (l.drop (64 * a)).take (64 * (j + 1)) = (l.drop (64 * a)).take (64 * j) ++ (l.drop (64 * (a + j))).take 64 := by
 rw [show 64 * (j + 1) = 64 * j + 64 by omega, List.take_add, List.drop_drop, show 64 * a + 64 * j = 64 * (a + j) by omega]
section
variable {w0 w w1 w' : World} {L L' : Lc} {S S' : Sc} {K K' : Kc} {f f' : Fl} {b b' : Bk} {s : St}
theorem mf (ho : bS f b) (hw : f.aq.length ≤ 64) (hp : f.pg ≤ 16) {s : Nat} (hs : s ≤ 1) : cI b s * f.pg + b.k * f.pg ≤ f.aq.length * f.pg ∧ aN f b.aa = b.k * f.pg * 64 := by
 constructor
 ·rw [← Nat.add_mul]
  refine Nat.mul_le_mul_right _ ?_
  unfold cI
  have h1 := ho.fw
  have h2 := ho.bk
  have h3 := Nat.mul_le_mul_right b.k hs
  omega
 unfold aN Bk.k
 rfl
theorem yV (h : bo w0 w L S K f b) (ho : bS f b) (hd : f.aF = false) (s n : Nat) (hs : s ≤ 1) (hn : 1 ≤ n) (qS : n ≤ aN f b.aa) (X : Nat → Prop) (hX : ∀ g, X g → g < w.heap.size) :
 Calls prog 76 #[.pointer (some ⟨K.D, 0, none⟩), .int .i64 s, .int .i64 n] w fun e w' => ∃ A c, e = .returned (.tuple #[.slice A n c, .nilIface]) ∧ n ≤ c ∧ c ≤ maxLen ∧ cn X w' A (ag .u8 (fv f b s n)) ∧ (fv f b s n).length = n ∧ bW w w' := by
 have g1 := ne_nil
 obtain ⟨i5, rR, jc, jb, ja⟩ := info_parts kD
 have lG := h.st.fl.ok.b2
 have iA := h.st.fl.ok.p2
 obtain ⟨qR, oF⟩ := mf ho lG iA hs
 have nV : f.aq.length * f.pg ≤ 1024 := gy h.st.fl.ok
 obtain ⟨B1, EE⟩ := ex (cI b s)
 obtain ⟨P, hP⟩ := ex f.pg
 obtain ⟨Q, hQ⟩ := ex (B1 * P)
 have hQi : (B1 : Int) * (P : Int) = (Q : Int) := by rw [← hQ]; push_cast; rfl
 have WM : B1 ≤ 82 := by
  rw [← EE]; unfold cI
  have := Nat.mul_le_mul hs ho.k8
  have := ho.fw
  omega
 have lX : b.first ≤ 64 := by have := ho.fw; omega
 have Rf : Hid (b.first ≤ 64) := lX
 have uM : Hid (b.aa = 2 * b.k + 2 ∧ b.k ≤ 8) := ⟨ho.bk, ho.k8⟩
 obtain ⟨J, hJ⟩ := ex ((n + 63) / 64)
 have hJ1 : n ≤ 64 * J ∧ 64 * J < n + 64 := oM
 have hJr : Q + J ≤ 1024 := by
  rw [EE, hP, hQ] at qR
  rw [hP] at oF nV
  generalize b.k * P = kp at qR oF
  omega
 have hJw : Q + J ≤ f.aq.length * f.pg := by
  rw [EE, hP, hQ] at qR
  rw [hP] at oF
  rw [hP]
  generalize b.k * P = kp at qR oF
  omega
 have hlen : f.img.length = f.aq.length * f.pg * 64 := h.st.fl.ok.len
 have J3 : Hid (∀ j, j < J → ft f ((Q + j : Nat) : Int) = (aB f (Q + j), 0) ∧ (aB f (Q + j)).length = 64) := fun j hj =>
  ⟨qG hd oM, kn h.st.fl.ok oM⟩
 have UP : Hid (fv f b s n = ((f.img.drop (64 * Q)).take (64 * J)).take n) := by
  unfold fv
  rw [Hid, EE, hP, hQ, List.take_take, Nat.min_eq_left oM]
 have uY : Hid ((fv f b s n).length = n) := by
  unfold fv
  rw [Hid, EE, hP, hQ, List.length_take, List.length_drop, hlen]
  omega
 have HJL : Hid (((f.img.drop (64 * Q)).take (64 * J)).length = 64 * J) := by
  rw [Hid, List.length_take, List.length_drop, hlen]
  omega
 have HK := iD h
 have iJ : Hid (∀ W, bW w W → W.cell? ⟨K.D, 0, none⟩ = some (.pointer (some ⟨L.d, 0, none⟩))) := fun W hB => (HK.ab hB).row 0 _ rfl
 have TJ : Hid (∀ W, bW w W → Calls prog 86 #[.pointer (some ⟨K.D, 0, none⟩), .int .i64 s] W fun e w' => e = .returned (.int .i64 B1) ∧ ∃ q, w' = W.drewN q) := fun W hB => by
  have := qk (HK.ab hB) uM.1 uM.2 Rf (s : Int) s rfl oM
  rw [EE] at this
  exact this
 have Fx : Hid (∀ W, bW w W → Calls prog 61 #[.pointer (some ⟨L.d, 0, none⟩)] W fun e w' => e = .returned (.int .i64 P) ∧ w' = W) := fun W hB => by
  have := iq (HK.ab hB).st.fl
  rw [hP] at this
  exact this.mono (fun e w' hh => ⟨hh.1, hh.2.symm⟩)
 have UJ : Hid (∀ j, j < J → ∀ W, bW w W → Calls prog 108 #[.pointer (some ⟨L.d, 0, none⟩), .int .i64 ((Q : Int) + (j : Int))] W fun e w' => ∃ A' c', e = .returned (.tuple #[.slice A' 64 c', .nilIface]) ∧ Rd w' w'.heap.size A' (ag .u8 (aB f (Q + j))) ∧ bW W w') := fun j hj W hB => by
  have := vD (HK.ab hB).st.fl ((Q + j : Nat) : Int)
  obtain ⟨e1, e2⟩ := J3 j hj
  rw [e1, bG] at this
  simp only at this
  rw [e2] at this
  rw [show (Q : Int) + (j : Int) = ((Q + j : Nat) : Int) by push_cast; rfl]
  refine this.mono ?_
  rintro e w' ⟨v', he, ho, hb⟩
  obtain ⟨A', c', rfl, _, _, hr⟩ := bL ho
  exact ⟨A', c', he, hr, hb⟩
 have HX := iD hX
 clear h ho hd lG iA qR oF nV EE hP hQ lX hJ hJw hlen hX qS
 obtain ⟨uV, hJ3⟩ := hJ1
 go_enter func76, ntmps76
 go_wp2_with (fail)
 go_loopw [8, 9] (fun v i wr => ∃ j : Nat, j ≤ J ∧ i = .int .i64 j ∧ wr.ownsRow w.heap.size 5 1 v (64 * j) (ag .u8 ((f.img.drop (64 * Q)).take (64 * j))) ∧ bW w wr) (fun _ i _ => J - (intOf i).toNat)
 case atStart => exact ⟨0, Nat.zero_le _, rfl, World.ownsRow_nil .., Below.refl _ _⟩
 case round =>
  obtain ⟨j, hj, rfl, hO, hB⟩ := hrel
  obtain ⟨A1, c1, rfl, h1, h2, -⟩ := a9 hO
  have HO := iD hO
  have HB := iD hB
  have c0 := iJ _ hB
  clear hO hB
  by_cases aW : j < J
  ·have Zo := iD (UJ j aW)
   have Tv : Hid (∀ W, bW wr W → W.cell? ⟨K.D, 0, none⟩ = some (.pointer (some ⟨L.d, 0, none⟩))) := fun W hb => iJ _ (HB.trans (hb.mono HB.size))
   have abx : Hid (∀ W, bW wr W → Calls prog 86 #[.pointer (some ⟨K.D, 0, none⟩), .int .i64 s] W fun e w' => e = .returned (.int .i64 B1) ∧ ∃ q, w' = W.drewN q) := fun W hb => TJ _ (HB.trans (hb.mono HB.size))
   have abi : Hid (∀ W, bW wr W → Calls prog 61 #[.pointer (some ⟨L.d, 0, none⟩)] W fun e w' => e = .returned (.int .i64 P) ∧ w' = W) := fun W hb => Fx _ (HB.trans (hb.mono HB.size))
   have abc : Hid (∀ q, Calls prog 108 #[.pointer (some ⟨L.d, 0, none⟩), .int .i64 ((Q : Int) + (j : Int))] (wr.drewN q) fun e w' => ∃ A' c', e = .returned (.tuple #[.slice A' 64 c', .nilIface]) ∧ Rd w' w'.heap.size A' (ag .u8 (aB f (Q + j))) ∧ bW wr w') := fun q => by
    have hb := Below.drewN (Below.refl wr.heap.size wr) q
    refine (Zo _ (HB.trans (hb.mono HB.size))).mono ?_
    rintro e w' ⟨A', c', he, hr, dZ⟩
    exact ⟨A', c', he, hr, hb.trans (dZ.mono hb.size)⟩
   have q1 : IntKind.i64.wrap (Q : Int) = (Q : Int) := IntWalk.i64_in _ oM
   have q2 : IntKind.i64.wrap ((Q : Int) + (j : Int)) = (Q : Int) + (j : Int) := IntWalk.i64_in _ oM
   go_wp2_with (fail)
   go_region_held3 (fun w9 => w9.cell? ⟨K.D, 0, none⟩ = some (.pointer (some ⟨L.d, 0, none⟩))) (first | exact Tv _ (Below.drewN bV _) | exact Tv _ (Below.drew bV) | exact Tv _ jI | go_keep) (first
    | (go_at_call 86; refine (abx _ (by first | exact Below.refl _ _ | exact Below.drewN bV _ | exact Below.drew bV)).mono ?_; rintro e wp ⟨rfl, qb, rfl⟩)
    | (go_at_call 61; refine (abi _ (by first | exact Below.refl _ _ | exact Below.drewN bV _ | exact Below.drew bV)).mono ?_; rintro e wp ⟨rfl, rfl⟩)
    | (go_at_call 108; refine (abc _).mono ?_; rintro e wb ⟨A2, c2, rfl, Lm, jI⟩))
   all_goals
    have mA : Hid (wb.ownsRow w.heap.size 5 1 (.slice A1 (64 * j) c1) (64 * j) (ag .u8 ((f.img.drop (64 * Q)).take (64 * j)))) := aD HO jI
    have fK : Hid (bW w wb) := HB.trans (jI.mono HB.size)
    have mD := iD Lm
    have HL9 : Hid ((ag .u8 (aB f (Q + j))).length = 64 * 1) := by rw [Hid, aE]; exact (J3 j aW).2
    have Bl : Hid (w.heap.size ≤ wb.heap.size) := fK.size
    have eW : Hid ((f.img.drop (64 * Q)).take (64 * (j + 1)) = (f.img.drop (64 * Q)).take (64 * j) ++ aB f (Q + j)) := G8 f.img Q j
    clear jI Lm c0
    go_wp2_with (at_builtin; refine aM _ rfl _ _ 32 rfl w.heap.size 5 i5 (.int .u8 0) 1 1 underlying32 rR jc jb ja rfl oM _ (64 * j) (ag .u8 ((f.img.drop (64 * Q)).take (64 * j))) rfl mA wb.heap.size A2 64 c2 (ag .u8 (aB f (Q + j))) rfl mD HL9 (cZ _ _) (by unfold maxLen; omega) oM Bl ?_)
    intro v' w2 bX hgrow kj
    have jd : Hid (bW w w2) := fK.grown hgrow Bl (fun k hk => (mA.lt k hk).1)
    rw [← dm, ← eW, show 64 * j + 64 = 64 * (j + 1) by omega] at bX
    obtain ⟨A3, c3, rfl, h4, h5, -⟩ := a9 bX
    have rZ := iD bX
    clear bX hgrow kj
    go_wp2
    go_roundw
    case rel => exact ⟨j + 1, oM, by go_num, rZ, jd⟩
    case measure => simp [intOf]; omega
  have hjJ : j = J := oM
  subst hjJ
  obtain ⟨A2, c2, e2, -, -, vV⟩ := a9 HO
  injection e2 with Uz Zc SW
  obtain ⟨g2, e3, -⟩ := vV oM
  rw [e3] at Uz
  subst Uz
  have HF : Hid (cn X wr (some ⟨g2, 0, none⟩) (ag .u8 (fv f b s n))) := by
   rw [Hid, UP]
   refine (lA (by rw [aE]; exact HJL) HO HX).part ?_
   unfold ag
   rw [List.map_take]
   exact List.take_prefix _ _
  have qa : n ≤ c1 := oM
  have HH2 := iD h2
  have HNC := iD qa
  unfold maxLen at h2
  clear Zc SW vV e3 c0
  go_wp2
  go_ret2
  exact ⟨_, c1, rfl, HNC, HH2, HF, uY, HB⟩
end
theorem dU.RQ (h : dU f s) (hs : eo f g) (dc : g.ok) (hd : g.aF = false) (iA : ∀ x, s.first * f.pg ≤ x → x < (s.first + s.aa) * f.pg → aB g x = aB f x) : dU g s := by
 have ny : ∀ b j i, b < s.aa → j < bm s f → i < s.k → aB g (aG s f b j + i) = aB f (aG s f b j + i) := fun b j i hb hj hi => by
  obtain ⟨h1, h2⟩ := h.ok.sL hb hj hi
  exact iA _ h1 h2
 have Nd : ∀ b j, aG s g b j = aG s f b j := hs.aG s
 have lQ := hs.BC s
 refine ⟨dc, h.ok.shape hs, hd, h.br, fun x h1 h2 => ?_, ?_, h.q0, h.xq, h.uT, fun hb => ?_⟩
 ·rw [hs.p] at h1 h2
  rw [iA x h1 h2]
  exact h.Bu x h1 h2
 ·exact h.new.congr rfl rfl hs.p (fun b j hb hj => dD rfl rfl hs.p (fun i hi => ny b j i hb hj hi))
 have t := h.Bv hb
 refine ⟨t.cO, t.vl, t.lg, t.ne, t.nx, t.er, fun he i hi => ?_⟩
 rw [Nd, ny _ _ _ h.ok.tb h.ok.ts hi]
 exact t.pre he i hi
def PX (f : Fl) : Fl := { f with aF := false }
theorem Ki (h : f.aF = false) : PX f = f := by
 unfold PX
 obtain ⟨_, _, _, _, _, _⟩ := f
 simp only at h
 subst h
 rfl
theorem DO (h : f.ok) : (PX f).ok := ⟨h.p1, h.p2, h.b1, h.b2, h.len, h.wQ, h.yz, h.LK, h.LJ⟩
theorem dU.KY (h : dU f s) (hs : eo f g) (dc : g.ok) (iA : ∀ x, s.first * f.pg ≤ x → x < (s.first + s.aa) * f.pg → aB g x = aB f x) : dU (PX g) s :=
 h.RQ (g := PX g) ⟨hs.p, hs.w⟩ (DO dc) rfl iA
def xS (f : Fl) (s : St) (o : Option (List Int)) : Prop := (dU (PX f) s ∧ o = if s.bt = true then some s.values else none) ∨ (xm f s ∧ o = some s.values)
theorem xS.live (h : dU f s) : xS f s (if s.bt = true then some s.values else none) := .inl ⟨by rw [Ki h.up]; exact h, rfl⟩
theorem xS.be {o : Option (List Int)} (h : xS f s o) (hf : f.ok) {p : List Int} (hp : Bytes p) (hn : n < 9223372036854775808) : xS (fM f n p) s o := by
 have dc := nW (n := n) hf hp hn
 rcases h with ⟨h1, h2⟩ | ⟨h1, h2⟩
 ·exact .inl ⟨h1.fl (g := PX (fM f n p)) rfl rfl rfl rfl (DO dc), h2⟩
 exact .inr ⟨h1.fl (g := fM f n p) rfl rfl rfl rfl dc, h2⟩
theorem tJ (h : f.aF = false) : aR f = f := by unfold aR; rw [iN (by rw [h]; decide)]
theorem tN (f : Fl) : aR (aR f) = aR f := tJ (ij f).2.2.2
theorem xS.again {o : Option (List Int)} (h : xS f s o) (hf : f.ok) (fh : s.ax.any fA = false) : cJ (aR f) s.first s.aa s.ax = 0 ∧ ej (aR f) (aJ (aR f) s.first s.aa s.ax) (aJ (aR f) s.first s.aa s.ax).an none ∧ ((aJ (aR f) s.first s.aa s.ax).an = s.an ∨ o = some (aJ (aR f) s.first s.aa s.ax).an) ∧ Same s (aJ (aR f) s.first s.aa s.ax) := by
 rcases h with ⟨h1, h2⟩ | ⟨h1, h2⟩
 ·obtain ⟨e1, e2, e3, e4⟩ := ij f
  have hl : dU (aR f) s := h1.fl (g := aR f) e1 e2 e3 e4 (me hf)
  have hs : ej (aR f) s s.an o := ⟨rfl, .inl ⟨hl, h2⟩⟩
  have := hs.again fh
  rw [tN] at this
  exact this
 have hs : ej f s s.an o := ⟨rfl, .inr ⟨h1, h2⟩⟩
 exact hs.again fh
theorem xS.seq {o : Option (List Int)} (h : xS f s o) (hf : f.ok) (fh : s.ax.any fA = false) (hn : s.seq ≤ n) : (aJ (aR f) s.first s.aa s.ax).seq ≤ n + 1 := by
 rcases h with ⟨h1, h2⟩ | ⟨h1, h2⟩
 ·obtain ⟨e1, e2, e3, e4⟩ := ij f
  have hl : dU (aR f) s := h1.fl (g := aR f) e1 e2 e3 e4 (me hf)
  have hs : ej (aR f) s s.an o := ⟨rfl, .inl ⟨hl, h2⟩⟩
  have := (gB.again (f := aR f) (s := s) (n := n) ⟨⟨_, _, hs⟩, hn⟩ fh).2.1.2
  rw [tN] at this
  exact this
 have hs : ej f s s.an o := ⟨rfl, .inr ⟨h1, h2⟩⟩
 exact (gB.again (f := f) (s := s) (n := n) ⟨⟨_, _, hs⟩, hn⟩ fh).2.1.2
structure jJ (f : Fl) (b : Bk) (n : Int) : Prop where
 ok : bS f b
 fo : f.ok
 lv : b.af = false → f.aF = false → dU f b.st ∧ b.bh = b.st.bt
 dn : b.af = false → f.aF = false
 JJ : ∃ o, xS f b.st o
 Ag : ∀ e ∈ b.erase, ((b.first + 2 : Nat) : Int) ≤ e ∧ e < ((b.first + b.aa : Nat) : Int)
 F6 : ∀ d, b.data = some d → (b.first + 2) * f.pg ≤ b.page ∧ b.page < (b.first + b.aa) * f.pg
 sq : b.st.seq ≤ n
 ul : b.au = true → 1 ≤ b.length
theorem jJ.more {m : Int} (h : jJ f b n) (hm : n ≤ m) : jJ f b m := ⟨h.ok, h.fo, h.lv, h.dn, h.JJ, h.Ag, h.F6, Int.le_trans h.sq hm, h.ul⟩
theorem jJ.fk (h : jJ f b n) : jJ f (ar b f) n := by
 refine ⟨gX h.ok, h.fo, fun hb hd => h.lv (fV hb).1 hd, fun hb => (fV hb).2, h.JJ, h.Ag, h.F6, h.sq, h.ul⟩
theorem jJ.with {c : Bk} (h : jJ f b n) (dc : bS f c) (dV : c.st = b.st) (cQ : c.af = b.af) (xM : c.bh = b.bh) (he : ∀ e ∈ c.erase, ((c.first + 2 : Nat) : Int) ≤ e ∧ e < ((c.first + c.aa : Nat) : Int)) (hp : ∀ d, c.data = some d → (c.first + 2) * f.pg ≤ c.page ∧ c.page < (c.first + c.aa) * f.pg) (hu : c.au = true → 1 ≤ c.length) : jJ f c n :=
 ⟨dc, h.fo, fun hb hd => by rw [dV, xM]; rw [cQ] at hb; exact h.lv hb hd, fun hb => by rw [cQ] at hb; exact h.dn hb, by rw [dV]; exact h.JJ, he, hp, by rw [dV]; exact h.sq, hu⟩
theorem Ms (h : jJ f b n) (dc : ∀ v l, bS f (cA b f v l).1) (v l : Int) : jJ f (cA b f v l).1 n := by
 have ho := dc v l
 revert ho
 unfold cA
 split
 ·exact fun _ => h.fk
 split
 ·exact fun _ => h.fk
 split
 ·exact fun _ => h.fk
 split
 ·exact fun _ => h.fk
 rename_i hr
 intro ho
 have oF : 1 ≤ l ∧ l ≤ (aN f b.aa : Nat) := Classical.byContradiction fun e => hr (.inr e)
 refine h.fk.with ho rfl rfl rfl (fun e he => ?_) h.fk.F6 (fun _ => ?_)
 ·have he' : e ∈ (List.range b.k).map fun (i : Nat) => ((cI b (1 - (aU b 0).toNat) + i : Nat) : Int) := he
  obtain ⟨i, hi, rfl⟩ := List.mem_map.1 he'
  have hi := List.mem_range.1 hi
  have h1 : (1 - (aU b 0).toNat) * b.k ≤ 1 * b.k := Nat.mul_le_mul_right _ oM
  have h3 := h.ok.bk
  show ((b.first + 2 : Nat) : Int) ≤ _ ∧ _ < ((b.first + b.aa : Nat) : Int)
  unfold cI
  omega
 show 1 ≤ l.toNat
 omega
theorem LR (h : bS f b) (hf : f.ok) {x : List Int} (hx : Bytes x) : bS f (dG b f x).1 ∧ (b.cH ≤ b.length → ∀ d, (dG b f x).2 = 0 → (dG b f x).1.data = some d → (b.first + 2) * f.pg ≤ (dG b f x).1.page ∧ (dG b f x).1.page < (b.first + b.aa) * f.pg) := by
 have h' := gX h
 unfold dG
 split
 ·exact ⟨h', fun _ d hd => by cases hd⟩
 split
 ·exact ⟨h', fun _ d hd => by cases hd⟩
 rename_i h2
 split
 ·exact ⟨h', fun _ d hd => by cases hd⟩
 split
 ·exact ⟨h', fun _ d hd => by cases hd⟩
 rename_i h4
 have h4' : x.length = min 64 (b.length - b.cH) := Classical.byContradiction h4
 have gU : b.cH ≠ b.length := fun e => h2 (.inr e)
 have Iv := h.cH
 have hlen := h.len
 obtain ⟨qR, oF⟩ := mf h hf.b2 hf.p2 (s := b.dst) h.dst
 have nV := gy hf
 have V0 : cI b b.dst * f.pg + b.cH / 64 < (b.first + b.aa) * f.pg ∧ (b.first + 2) * f.pg ≤ cI b b.dst * f.pg + b.cH / 64 := by
  constructor
  ·have e1 : cI b b.dst + b.k ≤ b.first + b.aa := by
    unfold cI
    have := Nat.mul_le_mul_right b.k h.dst
    have := h.bk
    omega
   have e2 := Nat.mul_le_mul_right f.pg e1
   rw [Nat.add_mul] at e2
   rw [oF] at hlen
   generalize b.k * f.pg = x1 at *
   omega
  have : b.first + 2 ≤ cI b b.dst := by unfold cI; omega
  have := Nat.mul_le_mul_right f.pg this
  omega
 have Ds := Nat.mul_le_mul_right f.pg h.fw
 refine ⟨⟨h'.ok, h'.sp, h'.fi, h'.bl, h'.lg, h'.br, h'.bk, h'.k1, h'.k8, h'.fw, h'.pg, h'.av, h'.dst, h'.DL, h'.len, by show b.cH + x.length ≤ b.length; omega, h'.er, fun d hd => ?_, by show cI b b.dst * f.pg + b.cH / 64 < 1024; omega⟩, fun _ d _ hd => ⟨V0.2, V0.1⟩⟩
 have e : gg x = d := by injection hd
 subst e
 exact ⟨eR oM, kx hx⟩
theorem OQ (h : jJ f b n) {x : List Int} (hx : Bytes x) : jJ f (dG b f x).1 n := by
 obtain ⟨ho, hp⟩ := LR h.ok h.fo hx
 have hp := hp h.ok.cH
 revert ho hp
 unfold dG
 split
 ·exact fun _ _ => h.fk
 split
 ·exact fun _ _ => h.fk
 split
 ·exact fun _ _ => h.fk
 split
 ·exact fun _ _ => h.fk
 intro ho hp
 exact h.fk.with ho rfl rfl rfl h.fk.Ag (fun d hd => hp d rfl hd) h.fk.ul
theorem MA (h : jJ f b n) : jJ f (ei b f).1 n := by
 have h' := h.fk
 unfold ei
 split
 ·exact h'
 split
 ·exact h'
 have ho := h'.ok
 refine h'.with ⟨ho.ok, ho.sp, ho.fi, ho.bl, ho.lg, ho.br, ho.bk, ho.k1, ho.k8, ho.fw, ho.pg, ho.av, ho.dst, ho.DL, ho.len, ho.cH, fun e he => (by cases he), fun d hd => (by cases hd), ho.page⟩ rfl rfl rfl (fun e he => by cases he) (fun d hd => by cases hd) (fun e => by cases e)
theorem pW (s : Int) : (dp b f s).1 = ar b f := by
 unfold dp
 repeat' split
 all_goals rfl
theorem bS.bc (ho : bS f b) {s : Nat} (hs : s ≤ 1) : ∃ v l c : Nat, aU b (3 + 3 * s) = v ∧ aU b (4 + 3 * s) = l ∧ aU b (5 + 3 * s) = c ∧ v ≤ 1073741824 ∧ l ≤ aN f b.aa ∧ c < 4294967296 := by
 obtain ⟨va, vt, vk, v0, l0, c0, v1, l1, c1, hv, b1, b2, b3, b4, b5, b6, b7, b8, b9⟩ := ho.vec
 match s, hs with
 | 0, _ => exact ⟨v0, l0, c0, by unfold aU; rw [hv]; rfl, by unfold aU; rw [hv]; rfl, by unfold aU; rw [hv]; rfl, b4, b5, b6⟩
 | 1, _ => exact ⟨v1, l1, c1, by unfold aU; rw [hv]; rfl, by unfold aU; rw [hv]; rfl, by unfold aU; rw [hv]; rfl, b7, b8, b9⟩
section
variable {w0 w w1 w' : World} {L L' : Lc} {S S' : Sc} {K K' : Kc} {f f' : Fl} {b b' : Bk} {s : St}
def Po (w0 w : World) (L : Lc) (S : Sc) (K : Kc) (f : Fl) (q : Bk × List Int × Int) (e : Ending) (w' : World) : Prop :=
 ∃ A n c, e = .returned (.tuple #[.slice A n c, fy q.2.2]) ∧ q.2.1.length = n ∧ n ≤ c ∧ c ≤ maxLen ∧ (∀ X : Nat → Prop, (∀ g, X g → g < w.heap.size) → cn X w' A (ag .u8 q.2.1)) ∧ nt w0 w L S K f q.1 w'
theorem Po.no {q : Bk × List Int × Int} {c : Int} {b1 : Bk} (hq : q = (b1, [], c)) (hc : c ≠ 0) (hb : nt w0 w L S K f b1 w') : Po w0 w L S K f q (.returned (.tuple #[.slice none 0 0, .iface 108 (.int .i64 c)])) w' := by
 subst hq
 exact ⟨none, 0, 0, by rw [dJ hc], rfl, Nat.le_refl _, Nat.zero_le _, fun X hX => cn.nil, hb⟩
theorem wA (h : bo w0 w L S K f b) (ho : bS f b) (si : Int) : Calls prog 20 #[.pointer (some ⟨K.D, 0, none⟩), .int .i64 si] w (Po w0 w L S K f (dp b f si)) := by
 have g1 := ne_nil
 have g2 := fW
 have HR := iD (fe h)
 have HO := iD (gX ho)
 have h9 := ho.RC
 by_cases cQ : (ar b f).af = true
 ·have HB : Hid (dp b f si = (ar b f, [], 20)) := by unfold dp; rw [Hid, iP cQ]
  rw [iP cQ, dJ (by decide)] at HR
  clear h ho cQ h9
  go_enter func20, ntmps20
  go_wp2_with (fail)
  refine HR.mono ?_
  rintro e w1 ⟨rfl, hK, hX⟩
  have HK := iD hK
  have HX := iD hX
  clear hK hX
  go_wp2
  go_ret2
  exact .no HB (by decide) (.mk' (.dh HX) HK)
 have jH : (ar b f).af = false := by simpa using cQ
 rw [iN cQ, bG] at HR
 have HU := iD (fV jH)
 have HW := iD (l5 si 0 1)
 by_cases Cj : 0 ≤ si ∧ si ≤ 1
 case neg =>
  have HB : Hid (dp b f si = (ar b f, [], 10)) := by unfold dp; rw [Hid, iN cQ, iP Cj]
  rw [decide_eq_false Cj] at HW
  clear h ho cQ h9 jH Cj
  go_enter func20, ntmps20
  go_wp2_with (fail)
  refine HR.mono ?_
  rintro e w1 ⟨rfl, hK, hX⟩
  have HK := iD hK
  have HX := iD hX
  clear hK hX
  go_wp2_with (fail)
  refine (HW _).mono ?_
  rintro e w2 ⟨rfl, rfl⟩
  go_wp2
  go_ret2
  exact .no HB (by decide) (.mk' (.dh HX) HK)
 rw [decide_eq_true Cj] at HW
 obtain ⟨s, Ci⟩ : ∃ s : Nat, si = s := ⟨si.toNat, oM⟩
 subst Ci
 have gC : s ≤ 1 := oM
 obtain ⟨vv, l, cc, iE, jB, yN, dB, dZ, gL⟩ := ho.bc gC
 have xU : Hid (aU (ar b f) (4 + 3 * s) = (l : Int)) := jB
 have QT : Hid (aU (ar b f) (5 + 3 * s) = (cc : Int)) := yN
 have jQ : Hid ((ar b f).st.ax.length = 9) := h9
 have SV : Hid (∀ w1 : World, bo w0 w1 L S K f (ar b f) → Calls prog 68 #[.pointer (some ⟨K.D, 0, none⟩), .int .i64 (4 + 3 * (s : Int))] w1 fun e w' => e = .returned (.int .i64 l) ∧ bW w1 w') := fun w1 hK => by
  have := cy hK HO.ok (4 + 3 * (s : Int)) (4 + 3 * s) (by push_cast; rfl) (by rw [jQ]; omega)
  rw [xU] at this
  exact this
 have SV5 : Hid (∀ w1 : World, bo w0 w1 L S K f (ar b f) → Calls prog 68 #[.pointer (some ⟨K.D, 0, none⟩), .int .i64 (5 + 3 * (s : Int))] w1 fun e w' => e = .returned (.int .i64 cc) ∧ bW w1 w') := fun w1 hK => by
  have := cy hK HO.ok (5 + 3 * (s : Int)) (5 + 3 * s) (by push_cast; rfl) (by rw [jQ]; omega)
  rw [QT] at this
  exact this
 by_cases hl : l = 0
 ·have HB : Hid (dp b f (s : Int) = (ar b f, [], 12)) := by unfold dp; rw [Hid, iN cQ, iN (by simpa using Cj), iP (.inl (by rw [Int.toNat_natCast, jB, hl]; rfl))]
  subst hl
  clear h ho cQ h9 jH Cj iE jB yN
  go_enter func20, ntmps20
  go_wp2_with (fail)
  refine HR.mono ?_
  rintro e w1 ⟨rfl, hK, hX⟩
  have HK := iD hK
  have HX := iD hX
  clear hK hX
  go_wp2_with (fail)
  refine (HW _).mono ?_
  rintro e w2 ⟨rfl, rfl⟩
  go_wp2_with (fail)
  refine (SV _ HK).mono ?_
  rintro e w3 ⟨rfl, hB⟩
  have jd := iD hB
  clear hB
  go_wp2
  go_ret2
  exact .no HB (by decide) (.mk' ((bY.dh HX).trans (bY.ak jd)) (HK.ab jd))
 have JP : ¬ (l : Int) = 0 := oM
 have Ey : ((l : Int) == 0) = false := by simpa using JP
 by_cases hud : b.au = true ∧ b.dst = s
 ·have HB : Hid (dp b f (s : Int) = (ar b f, [], 12)) := by unfold dp; rw [Hid, iN cQ, iN (by simpa using Cj), iP (.inr ⟨hud.1, by rw [hud.2]⟩)]
  obtain ⟨hu, uU⟩ := hud
  clear h ho cQ h9 jH Cj iE jB yN
  go_enter func20, ntmps20
  go_wp2_with (fail)
  refine HR.mono ?_
  rintro e w1 ⟨rfl, hK, hX⟩
  have HK := iD hK
  have HX := iD hX
  clear hK hX
  go_wp2_with (fail)
  refine (HW _).mono ?_
  rintro e w2 ⟨rfl, rfl⟩
  go_wp2_with (fail)
  refine (SV _ HK).mono ?_
  rintro e w3 ⟨rfl, hB⟩
  have jd := iD hB
  have c6 : w3.cell? ⟨K.D, 6, none⟩ = some (.bool b.au) := (HK.ab hB).row 6 _ rfl
  have c7 : w3.cell? ⟨K.D, 7, none⟩ = some (.int .i64 b.dst) := (HK.ab hB).row 7 _ rfl
  rw [hu] at c6
  rw [uU] at c7
  clear hB
  go_wp2
  go_ret2
  exact .no HB (by decide) (.mk' ((bY.dh HX).trans (bY.ak jd)) (HK.ab jd))
 have vY : b.au = false ∨ (b.au = true ∧ ¬ (b.dst : Int) = (s : Int) ∧ ((b.dst : Int) == (s : Int)) = false) := by
  by_cases hu : b.au = true
  ·refine .inr ⟨hu, ?_, ?_⟩
   ·intro e; exact hud ⟨hu, oM⟩
   have : ¬ (b.dst : Int) = (s : Int) := fun e => hud ⟨hu, oM⟩
   simpa using this
  exact .inl (by simpa using hu)
 obtain ⟨img, jo⟩ := ex (fv f b s l)
 obtain ⟨C, hC⟩ := ex (eS img)
 have hCr : 0 ≤ C ∧ C < 4294967296 := by rw [← hC]; exact l6 img
 have HBI : Hid (dp b f (s : Int) = if C ≠ (cc : Int) then (ar b f, [], 19) else (ar b f, img, 0)) := by
  unfold dp
  rw [Hid, iN cQ, iN (by simpa using Cj), iN (by
   rintro (e | e)
   ·rw [Int.toNat_natCast, jB] at e; exact JP e
   exact hud ⟨e.1, oM⟩), Int.toNat_natCast, jB, Int.toNat_natCast, jo, hC, yN]
 have ph : Hid (∀ w3 : World, bo w0 w3 L S K f (ar b f) → ∀ X : Nat → Prop, (∀ g, X g → g < w3.heap.size) → Calls prog 76 #[.pointer (some ⟨K.D, 0, none⟩), .int .i64 s, .int .i64 l] w3 fun e w' => ∃ A c, e = .returned (.tuple #[.slice A l c, .nilIface]) ∧ l ≤ c ∧ c ≤ maxLen ∧ cn X w' A (ag .u8 img) ∧ img.length = l ∧ bW w3 w') := fun w3 hK X hX => by
  have := yV hK HO HU.2 s l gC oM dZ X hX
  rw [show fv f (ar b f) s l = img from jo] at this
  exact this
 have Dm : Hid (Bytes img) := by rw [← jo]; unfold fv; exact gA (eh h.st.fl.ok.wQ _) _
 have Yq := iD hC
 have hl8 : l ≤ 8192 := Nat.le_trans dZ (by rw [ho.bk]; exact ec h.st.fl.ok ho.k8)
 have q3 : IntKind.i64.wrap C = C := IntWalk.i64_in _ oM
 obtain ⟨hC0, jg⟩ := hCr
 clear h ho cQ h9 jH Cj iE jB yN jo hC hud
 have hN : (fun g => g < w.heap.size) = (fun g => g < w.heap.size) := rfl
 by_cases kY : C = (cc : Int)
 all_goals
  rcases vY with hu | ⟨hu, Be, qg⟩
  all_goals
   first
    | (have HB : Hid (dp b f (s : Int) = (ar b f, img, 0)) := by rw [Hid, HBI, iN (by simpa using kY)])
    | (have HB : Hid (dp b f (s : Int) = (ar b f, [], 19)) := by rw [Hid, HBI, iP kY]
       have aaz : (C == (cc : Int)) = false := by simpa using kY)
   go_enter func20, ntmps20
   go_wp2_with (fail)
   refine HR.mono ?_
   rintro e w1 ⟨rfl, hK, hX⟩
   have HK := iD hK
   have HX := iD hX
   clear hK hX
   go_wp2_with (fail)
   refine (HW _).mono ?_
   rintro e w2 ⟨rfl, rfl⟩
   go_wp2_with (fail)
   refine (SV _ HK).mono ?_
   rintro e w3 ⟨rfl, hB⟩
   have pq := iD (HK.ab hB)
   have G0 : Hid (bY w w3 L S K L S K) := (bY.dh HX).trans (bY.ak hB)
   have c6 : w3.cell? ⟨K.D, 6, none⟩ = some (.bool b.au) := pq.row 6 _ rfl
   have c7 : w3.cell? ⟨K.D, 7, none⟩ = some (.int .i64 b.dst) := pq.row 7 _ rfl
   rw [hu] at c6
   have HSX : Hid (w.heap.size ≤ w3.heap.size) := Nat.le_trans HX.size hB.size
   clear hB
   go_wp2_with (fail)
   refine (ph _ pq (fun g => g < w3.heap.size) (fun g hg => hg)).mono ?_
   rintro e w4 ⟨A4, c4, rfl, mB, sT, hr, gZ, hB⟩
   have xC := iD (pq.ab hB)
   have JB : Hid (bY w w4 L S K L S K) := G0.trans (bY.ak hB)
   have QX := iD hr
   have HL4 := iD gZ
   have Yr : Hid (l ≤ c4 ∧ c4 ≤ maxLen) := ⟨mB, sT⟩
   clear hB hr gZ mB sT c6 c7
   go_wp2_with (fail)
   refine (nX A4 l c4 img w4 QX.rd HL4 Dm oM).mono ?_
   rintro e w5 ⟨rfl, q, rfl⟩
   rw [Yq]
   have Bn : Hid (bW w4 (w4.drewN q)) := Below.drewN (Below.refl w4.heap.size w4) q
   have sc := iD (xC.ab Bn)
   have JA : Hid (bY w (w4.drewN q) L S K L S K) := JB.trans (bY.ak Bn)
   have UK := iD (QX.ao (ah.ak Bn))
   generalize w4.drewN q = W5 at sc JA UK ⊢
   clear Bn
   go_wp2_with (fail)
   refine (SV5 _ sc).mono ?_
   rintro e w6 ⟨rfl, hB⟩
   have ov := iD (sc.ab hB)
   have M0 : Hid (bY w w6 L S K L S K) := JA.trans (bY.ak hB)
   have Tn := iD (UK.ao (ah.ak hB))
   clear hB
   go_wp2
   go_ret2
   first
    | exact .no HB (by decide) (.mk' M0 ov)
    | (rw [HB]; exact ⟨A4, l, c4, rfl, HL4, Yr.1, Yr.2, fun X hX => Tn.dQ (fun g _ hg => Nat.lt_of_lt_of_le (hX g hg) HSX), .mk' M0 ov⟩)
end
end Go.Proofs.YtjdknddnanopaaaGreat
