/-
  Part 15 of the proof.
-/
import Derived.Test.YtjdknddnanopaaaGreatR14
namespace Go.Proofs.YtjdknddnanopaaaGreat
open Go.RowKit Tryz
set_option maxRecDepth 100000
set_option maxHeartbeats 16000000
set_option linter.all false
variable {f g : Fl} {b : Bk} {s : St} {w w' w0 : World} {N d i id k m x : Nat} {n : Int} {A B C D E F : Array Value} {X : Nat → Prop} {t u : TypeId} {img : List Int} {Q : Exit → Go.Act → World → Prop} {a : Go.Act}
section
variable {md : Region.Mode} {ops : Array Oper} {Q : Exit → Go.Act → World → Prop} {S : World → Prop} {k fuel : Nat} {ax : Array Bool} {a a' : Go.Act} {w : World} {oi : Oper} {v : Value}
theorem tK (i : Nat) (v : Value) (hS : S w) (h : fC prog md ops Q S k fuel (ax.setIfInBounds i true) a' w) (o : Pz prog md ops Q ax a i d v a' := by exact Nd) (xx : i ≠ k := by decide) : fC prog md ops Q S k (fuel + 1) ax a w := by
 obtain ⟨oi, hi, hs, hf, hr, hd, hw, he, ha, hQ⟩ := o
 exact Mx hi hs hf hr xx (by rw [hd]; exact hQ) (.inl ⟨hw, fun w _ => he w⟩) hS (by rw [hd, ha]; exact h)
theorem tM (i : Nat) (v : Value) (hi : ops[i]? = some oi) (hy : YieldsIf prog ops S oi v a) (hS : S w) (h : fC prog md ops Q S k fuel (ax.setIfInBounds i true) a' w) (hs : Region.noSelect ops = true := by kernel_rfl) (hf : Region.free md ops ax i = true := by kernel_rfl) (hr : (Region.ready md ops ax).contains i = true := by kernel_rfl) (hk : ((ops[k]?).map (·.after.any fun e => Region.binds md e && e.on == i)) = some true := by kernel_rfl) (hd : oi.dst = some d := by exact rfl) (ha : a.put (some d) (v) = a' := by (simp only [nm]; rfl)) (hQ : ∀ c a w, Q (.panic c) (a.put (some d) (v)) w → Q (.panic c) a w := by exact fun _ _ _ h => h) : fC prog md ops Q S k (fuel + 1) ax a w :=
 Jj hi hs hf hr hk (by rw [hd]; exact hQ) hy hS (by rw [hd, ha]; exact h)
theorem wI (i : Nat) (h : wpOp prog ops Q i (fun a' w' => S w' ∧ wpAnyH prog md ops Q S fuel (ax.setIfInBounds i true) a' w') a w) (hr : Region.ready md ops ax = [i] := by kernel_rfl) : wpAnyH prog md ops Q S (fuel + 1) ax a w := DU hr h
theorem wJ (i j : Nat) (h : wpOp prog ops Q i (fun a' w' => S w' ∧ wpAnyH prog md ops Q S fuel (ax.setIfInBounds i true) a' w') a w) (h2 : wpOp prog ops Q j (fun a' w' => S w' ∧ wpAnyH prog md ops Q S fuel (ax.setIfInBounds j true) a' w') a w) (hr : Region.ready md ops ax = [i, j] := by kernel_rfl) : wpAnyH prog md ops Q S (fuel + 1) ax a w := DT hr h h2
theorem kI (i : Nat) (h : wpOp prog ops Q i (fun a' w' => S w' ∧ fC prog md ops Q S k fuel (ax.setIfInBounds i true) a' w') a w) (hr : Region.ready md ops ax = [i] := by kernel_rfl) (xx : i ≠ k := by decide) : fC prog md ops Q S k (fuel + 1) ax a w := My hr xx h
theorem kL (h : wpOp prog ops Q k (fun a' w' => wpAnyH prog md ops Q (fun _ => True) fuel (ax.setIfInBounds k true) a' w') a w) (hr : Region.ready md ops ax = [k] := by kernel_rfl) : fC prog md ops Q S k (fuel + 1) ax a w := Jk hr h
theorem rX {d' : Option Tmp} {T : Prop} (hS : T) (h : fC prog md ops Q S k fuel ax a' w) (hd : d' = some d := by exact rfl) (ha : a.put (some d) (v) = a' := by (simp only [nm]; rfl)) : ∃ v', Ending.returned v = .returned v' ∧ T ∧ fC prog md ops Q S k fuel ax (a.put d' v') w := by
 subst hd ha
 exact ⟨v, rfl, hS, h⟩
theorem vP (i : Nat) (g j : Nat) (hS : S w) (h : wpAnyH prog md ops Q S fuel (ax.setIfInBounds i true) a' w) (o : Pz prog md ops Q ax a i d (.pointer (some ⟨g, j, none⟩)) a' := by exact Nd) : wpAnyH prog md ops Q S (fuel + 1) ax a w := tV i _ hS h o
theorem kP (i : Nat) (g j : Nat) (hS : S w) (h : fC prog md ops Q S k fuel (ax.setIfInBounds i true) a' w) (o : Pz prog md ops Q ax a i d (.pointer (some ⟨g, j, none⟩)) a' := by exact Nd) (xx : i ≠ k := by decide) : fC prog md ops Q S k (fuel + 1) ax a w := tK i _ hS h o xx
theorem vA (i : Nat) (C : Array Value) (hS : S w) (h : wpAnyH prog md ops Q S fuel (ax.setIfInBounds i true) a' w) (o : Pz prog md ops Q ax a i d (.agg C) a' := by exact Nd) : wpAnyH prog md ops Q S (fuel + 1) ax a w := tV i _ hS h o
theorem kA (i : Nat) (C : Array Value) (hS : S w) (h : fC prog md ops Q S k fuel (ax.setIfInBounds i true) a' w) (o : Pz prog md ops Q ax a i d (.agg C) a' := by exact Nd) (xx : i ≠ k := by decide) : fC prog md ops Q S k (fuel + 1) ax a w := tK i _ hS h o xx
theorem vN (i : Nat) (z : Int) (hS : S w) (h : wpAnyH prog md ops Q S fuel (ax.setIfInBounds i true) a' w) (o : Pz prog md ops Q ax a i d (.int .i64 z) a' := by exact Nd) : wpAnyH prog md ops Q S (fuel + 1) ax a w := tV i _ hS h o
theorem kN (i : Nat) (z : Int) (hS : S w) (h : fC prog md ops Q S k fuel (ax.setIfInBounds i true) a' w) (o : Pz prog md ops Q ax a i d (.int .i64 z) a' := by exact Nd) (xx : i ≠ k := by decide) : fC prog md ops Q S k (fuel + 1) ax a w := tK i _ hS h o xx
theorem Fr.fN {wr : World} {l : List (Array Value × TypeId)} (h : Fr w wr ((C, t) :: (D, u) :: l)) : wr.heap[w.heap.size]? = some (.cells C t (0, 0)) ∧ wr.heap[w.heap.size + 1]? = some (.cells D u (0, 0)) := ⟨h.aE, h.dL⟩
variable {K : Go.Act → World → Prop} {rest : List Oper} {o : Oper} {n : Nat} {al : List Value} {R : Ending → World → Prop} {xl : List Operand} {JZ : Array TypeId}
theorem cW (hc : Calls prog n al.toArray w R) (h : ∀ e w', R e w' → ∃ v, e = .returned v ∧ K (a.put oi.dst v) w') (hi : ops[i]? = some oi := by exact rfl) (hw : Region.wanted oi (yielded ops a.tmps) = true := by exact rfl) (ho : oi.op = .call { callee := .value (.func n), args := xl.toArray, argTypes := JZ } := by exact rfl) (hargs : xl.map a.eval = al := by exact rfl) (vU : ∀ (args : Array Value) (w : World), (callFunc n args).run prog w = .ok (.enter n args) w := by intro _ _; go_simp) : wpOp prog ops Q i K a w :=
 rz hi hw xl JZ ho hargs vU (hc.mono fun e w' hr => h e w' hr)
theorem cP (hc : Calls prog n al.toArray w R) (h : ∀ e w', R e w' → ∃ v, e = .returned v ∧ wpList prog ops Q rest (a.put o.dst v) w') (hg : o.guard = none := by exact rfl) (ho : o.op = .call { callee := .value (.func n), args := xl.toArray, argTypes := JZ } := by exact rfl) (hargs : xl.map a.eval = al := by exact rfl) (vU : ∀ (args : Array Value) (w : World), (callFunc n args).run prog w = .ok (.enter n args) w := by intro _ _; go_simp) : wpList prog ops Q (o :: rest) a w :=
 jZ hg xl JZ ho hargs vU (hc.mono fun e w' hr => h e w' hr)
theorem rP {d : Option Tmp} (h : wpList prog ops Q rest a' w) (ha : a.put d v = a' := by first | (simp only [nm]; rfl) | rfl) : ∃ v', Ending.returned v = .returned v' ∧ wpList prog ops Q rest (a.put d v') w := by
 subst ha
 exact ⟨v, rfl, h⟩
end
section
variable {md : Region.Mode} {ops : Array Oper} {Q : Exit → Go.Act → World → Prop} {S : World → Prop} {k fuel : Nat} {ax l' : Array Bool} {a a' : Go.Act} {w w0 : World} {oi o op : Oper} {rest : List Oper} {K : Go.Act → World → Prop} {x y : Operand} {t : TypeId} {C D : Array Value} {L L' : List (Array Value × TypeId)} {g j : Nat} {v : Value}
theorem gQ (h : w.heap[g]? = some (.cells A t (0, 0))) (hj : A[j]? = some v) : w.cell? ⟨g, j, none⟩ = some v := (cell_of_row w g j A t (0, 0) h).trans hj
theorem yC {ty : TypeId} (hS : ∀ w, S w → w.cell? ⟨g, j, none⟩ = some v) (hw : Region.wanted op (yielded ops a.tmps) = true := by exact rfl) (ho : op.op = .load ty x := by exact rfl) (hx : a.eval x = .pointer (some ⟨g, j, none⟩) := by exact rfl) (hr : ∀ w : World, w.cell? ⟨g, j, none⟩ = some v → (Instr.loadAt ty (.pointer (some ⟨g, j, none⟩))).run prog w = .ok v w := by (intro w h; go_simp)) : YieldsIf prog ops S op v a := YC hw x ho g j hx v (fun w h => hr w (hS w h))
theorem iQ (hS : ∀ w, S w → w.heap[g]? = some (.cells C 45 (0, 0))) (hs : C.size = 26) (hw : Region.wanted op (yielded ops a.tmps) = true := by exact rfl) (ho : op.op = .load 45 x := by exact rfl) (hx : a.eval x = .pointer (some ⟨g, 0, none⟩) := by exact rfl) : YieldsIf prog ops S op (.agg C) a := ZN hw x ho g hx C hS hs
theorem jT (hS : ∀ w, S w → w.heap[g]? = some (.cells C 35 (0, 0))) (hs : C.size = 6) (hw : Region.wanted op (yielded ops a.tmps) = true := by exact rfl) (ho : op.op = .load 35 x := by exact rfl) (hx : a.eval x = .pointer (some ⟨g, 0, none⟩) := by exact rfl) : YieldsIf prog ops S op (.agg C) a := ZO hw x ho g hx C hS hs
theorem lB (hr : w.heap[g]? = some (.cells C 45 (0, 0))) (hs : C.size = 26) (h : wpList prog ops Q rest a' w) (hg : o.guard = none := by exact rfl) (ho : o.op = .load 45 x := by exact rfl) (hx : a.eval x = .pointer (some ⟨g, 0, none⟩) := by exact rfl) (ha : a.put o.dst (.agg C) = a' := by first | (simp only [nm]; rfl) | rfl) : wpList prog ops Q (o :: rest) a w := by
 subst ha
 exact Z5 hg x ho g hx C hr hs h
theorem jM (hr : w.heap[g]? = some (.cells C 45 (0, 0))) (h : wpList prog ops Q rest a' w) (hs : C.size = 26 := by first | exact aW _ _ _ _ | exact bD _ _) (hg : o.guard = none := by exact rfl) (ho : o.op = .load 45 x := by exact rfl) (hx : a.eval x = .pointer (some ⟨g, 0, none⟩) := by exact rfl) (ha : a.put o.dst (.agg C) = a' := by first | (simp only [nm]; rfl) | rfl) : wpList prog ops Q (o :: rest) a w := lB hr hs h hg ho hx ha
theorem lF (hr : w.heap[g]? = some (.cells C 35 (0, 0))) (hs : C.size = 6) (h : wpList prog ops Q rest a' w) (hg : o.guard = none := by exact rfl) (ho : o.op = .load 35 x := by exact rfl) (hx : a.eval x = .pointer (some ⟨g, 0, none⟩) := by exact rfl) (ha : a.put o.dst (.agg C) = a' := by first | (simp only [nm]; rfl) | rfl) : wpList prog ops Q (o :: rest) a w := by
 subst ha
 exact Z6 hg x ho g hx C hr hs h
theorem xt (hr : w.heap[g]? = some (.cells C 35 (0, 0))) (h : wpList prog ops Q rest a' w) (hs : C.size = 6 := by exact aT _ _) (hg : o.guard = none := by exact rfl) (ho : o.op = .load 35 x := by exact rfl) (hx : a.eval x = .pointer (some ⟨g, 0, none⟩) := by exact rfl) (ha : a.put o.dst (.agg C) = a' := by first | (simp only [nm]; rfl) | rfl) : wpList prog ops Q (o :: rest) a w := lF hr hs h hg ho hx ha
theorem Nc (o : ah (fun b => b = N + 0) w w') : ah (XF X N (m + 1)) w w' := o.more (fun b e => e ▸ pS _ _)
theorem N7 (o : ah (fun b => b = N + 1) w w') : ah (XF X N (m + 2)) w w' := o.more (fun b e => e ▸ xf1 _ _)
theorem Nb (o : ah (fun b => b = N + 2) w w') : ah (XF X N (m + 3)) w w' := o.more (fun b e => e ▸ xf2 _ _)
theorem Vu (o : ah (fun b => b = N + 3) w w') : ah (XF X N (m + 4)) w w' := o.more (fun b e => e ▸ xf3 _ _)
theorem sW (j : Nat) (H : Hid (Fr w0 w L)) (h : ∀ w', ah (fun b => b = w0.heap.size + j) w w' → Hid (Fr w0 w' L') → K a w') (hL : L[j]? = some (D, t) := by exact rfl) (hi : ops[i]? = some oi := by exact rfl) (hw : Region.wanted oi (yielded ops a.tmps) = true := by exact rfl) (di : oi.dst = none := by exact rfl) (ho : oi.op = .store t x y := by exact rfl) (hx : a.eval x = .pointer (some ⟨w0.heap.size + j, 0, none⟩) := by exact rfl) (hy : a.eval y = .agg C := by exact rfl) (hs : (prog.info? t).map (·.size) = some C.size := by first | exact gJ (aW _ _ _ _) | exact pF (aT _ _) | exact yk (cD _ _) | exact gJ (bD _ _) | exact gJ rfl | exact pF rfl | exact yk rfl | exact gJ (Hid.out ‹_›) | exact pF (Hid.out ‹_›)) (ht : (prog.info? t).map (·.size) = some D.size := by first | exact gJ (aW _ _ _ _) | exact pF (aT _ _) | exact yk (cD _ _) | exact gJ (bD _ _) | exact gJ rfl | exact pF rfl | exact yk rfl | exact gJ (Hid.out ‹_›) | exact pF (Hid.out ‹_›)) (h1 : C.all (·.oneCell') = true := by first | exact Fg _ _ _ _ | exact mF _ _ | exact gL _ _ | exact eY _ _ | exact Hid.out ‹_›) (hl : L.set j (C, t) = L' := by (simp only [nm]; rfl)) : wpOp prog ops Q i K a w :=
 fO hi hw di t x y ho (w0.heap.size + j) C D hx hy t (H.out.row j D t hL) hs (Option.some.inj (ht.symm.trans hs)) h1 (h _ (ah.row w (w0.heap.size + j) C rfl) (H.out.put j C hL hl))
theorem sP (j : Nat) (H : Hid (Fr w0 w L)) (h : ∀ w', ah (fun b => b = w0.heap.size + j) w w' → Hid (Fr w0 w' L') → wpList prog ops Q rest a w') (hL : L[j]? = some (D, t) := by exact rfl) (hg : o.guard = none := by exact rfl) (di : o.dst = none := by exact rfl) (ho : o.op = .store t x y := by exact rfl) (hx : a.eval x = .pointer (some ⟨w0.heap.size + j, 0, none⟩) := by exact rfl) (hy : a.eval y = .agg C := by exact rfl) (hs : (prog.info? t).map (·.size) = some C.size := by first | exact gJ (aW _ _ _ _) | exact pF (aT _ _) | exact yk (cD _ _) | exact gJ (bD _ _) | exact gJ rfl | exact pF rfl | exact yk rfl | exact gJ (Hid.out ‹_›) | exact pF (Hid.out ‹_›)) (ht : (prog.info? t).map (·.size) = some D.size := by first | exact gJ (aW _ _ _ _) | exact pF (aT _ _) | exact yk (cD _ _) | exact gJ (bD _ _) | exact gJ rfl | exact pF rfl | exact yk rfl | exact gJ (Hid.out ‹_›) | exact pF (Hid.out ‹_›)) (h1 : C.all (·.oneCell') = true := by first | exact Fg _ _ _ _ | exact mF _ _ | exact gL _ _ | exact eY _ _ | exact Hid.out ‹_›) (hl : L.set j (C, t) = L' := by (simp only [nm]; rfl)) : wpList prog ops Q (o :: rest) a w :=
 wpList_store_rowTo hg t x y ho di (w0.heap.size + j) C hx hy t D (H.out.row j D t hL) hs (Option.some.inj (ht.symm.trans hs)) h1 (h _ (ah.row w (w0.heap.size + j) C rfl) (H.out.put j C hL hl))
end
section
variable {fn : Func} {R : Ending → World → Prop} {a : Go.Act} {w : World} {p p' u v ty AW g g' : Nat} {t t' : TypeId} {C C' : Array Value} {d d' : TypeDesc}
theorem rJ (h : fn.results = #[.cell p ty, .tmp u, .tmp v]) (hg : w.heap[g]? = some (.cells C t (0, 0))) (hs : (prog.info? ty).map (·.size) = some C.size) (hR : R (.returned (.tuple #[.agg C, a.tmps.getD u undef, a.tmps.getD v undef])) w) (hp : a.tmps.getD p undef = .pointer (some ⟨g, 0, none⟩) := by exact rfl) (hu : prog.underlying ty = some d := by first | exact underlying45 | exact underlying43 | exact underlying35) (hd : Q7 d = true := by exact rfl) (hf : a.defers = [] := by exact rfl) : bodyPost prog fn R .ret a w :=
 bodyPost_ret (zy h _ _ g t C (0, 0) d hp hg hu (by cases d <;> first | rfl | simp [Q7] at hd) hs) hf hR
theorem rT (h : fn.results = #[.cell p ty, .cell p' AW, .tmp u, .tmp v]) (hg : w.heap[g]? = some (.cells C t (0, 0))) (du : w.heap[g']? = some (.cells C' t' (0, 0))) (hs : (prog.info? ty).map (·.size) = some C.size) (jU : (prog.info? AW).map (·.size) = some C'.size) (hR : R (.returned (.tuple #[.agg C, .agg C', a.tmps.getD u undef, a.tmps.getD v undef])) w) (hp : a.tmps.getD p undef = .pointer (some ⟨g, 0, none⟩) := by exact rfl) (hu : prog.underlying ty = some d := by first | exact underlying45 | exact underlying43 | exact underlying35) (hd : Q7 d = true := by exact rfl) (Nj : a.tmps.getD p' undef = .pointer (some ⟨g', 0, none⟩) := by exact rfl) (ql : prog.underlying AW = some d' := by first | exact underlying45 | exact underlying43 | exact underlying35) (kW : Q7 d' = true := by exact rfl) (hf : a.defers = [] := by exact rfl) : bodyPost prog fn R .ret a w :=
 bodyPost_ret (zx h _ _ g g' t t' C C' d d' hp Nj hg du hu (by cases d <;> first | rfl | simp [Q7] at hd) hs ql (by cases d' <;> first | rfl | simp [Q7] at kW) jU) hf hR
end
theorem rF {l : List (Array Value × TypeId)} {ops : Array Oper} (h : Hid (Fr w0 w ((A, t) :: (B, u) :: l))) (k : Hid (Fr w0 w.drew ((A, t) :: (B, u) :: l)) → wpAnyH prog .any ops Q (fun w' => w'.heap[w0.heap.size]? = some (.cells A t (0, 0)) ∧ w'.heap[w0.heap.size + 1]? = some (.cells B u (0, 0))) ops.size (Array.replicate ops.size false) a w.drew) : (Code.region id ops true).wp prog Q a w :=
 wp_region_held_drew (by kernel_rfl) (h.out.ab fY).fN (fun _ => k (h.out.ab fY))
theorem rG {l : List (Array Value × TypeId)} {ops : Array Oper} (h : Hid (Fr w0 w ((A, t) :: (B, u) :: l))) (n : Nat) (k : Hid (Fr w0 w.drew ((A, t) :: (B, u) :: l)) → fC prog .any ops Q (fun w' => w'.heap[w0.heap.size]? = some (.cells A t (0, 0)) ∧ w'.heap[w0.heap.size + 1]? = some (.cells B u (0, 0))) n ops.size (Array.replicate ops.size false) a w.drew) : (Code.region id ops true).wp prog Q a w :=
 mi (by kernel_rfl) _ n (k (h.out.ab fY))
theorem rQ {p : Prop} {x : Array Value × TypeId} {l : List (Array Value × TypeId)} {X : World → Prop} (H : Hid (Fr w0 w ((C, 45) :: x :: (D, 45) :: l))) (post : ∀ w', Hid (Fr w0 w' ((C, 45) :: x :: (C, 45) :: l)) → X w') 
 (h5 : C.size = 26 := by first | exact aW _ _ _ _ | exact bD _ _) (h : Hid (Fr w0 w ((C, 45) :: x :: (D, 45) :: l)) → (∀ w', Hid (Fr w0 w' ((C, 45) :: x :: (C, 45) :: l)) → X w') → C.size = 26 → p := by
  intro H post' JX
  have post := iD post'
  have h5 := iD JX
  clear post' JX
  refine wp_region_list ?_
  refine lB (Fr.aE (Hid.out H)) (Hid.out h5) ?_
  refine sP 2 H fun w9 _ H9 => ?_
  repeat (first | go_values | go_skip | go_guarded | go_step | go_upon | go_in | go_back)
  (try simp only [Exit.inBlock, Exit.then])
  refine rI rfl (Fr.eU (Hid.out H9)) (gJ (Hid.out h5)) ?_
  exact post w9 H9) : p := h H post h5
theorem ox5 {Y : Nat → Prop} {w1 w2 : World} (o : ah (fun b => b = N + 2) w w1) (o' : ah (fun b => b = N + 3) w1 w2) : ah (XF Y N 4) w w2 := (Nb o).trans (Vu o')
theorem rV {p : Prop} {X : World → Prop} (H : Hid (Fr w0 w [(C, 45), (D, 35), (E, 45), (F, 35)])) (post : ∀ w', (∀ Y, ah (XF Y w0.heap.size 4) w w') → Hid (Fr w0 w' [(C, 45), (D, 35), (C, 45), (D, 35)]) → X w') 
 (h5 : C.size = 26 := by first | exact aW _ _ _ _ | exact bD _ _) (h6 : D.size = 6 := by exact aT _ _) (h : Hid (Fr w0 w [(C, 45), (D, 35), (E, 45), (F, 35)]) → (∀ w', (∀ Y, ah (XF Y w0.heap.size 4) w w') → Hid (Fr w0 w' [(C, 45), (D, 35), (C, 45), (D, 35)]) → X w') → C.size = 26 → D.size = 6 → p := by
  intro H post' JX Tf
  have post := iD post'
  have h5 := iD JX
  have h6 := iD Tf
  clear post' JX Tf
  refine rF H fun H1 => ?_
  refine tL 0 _ rfl (iQ (fun _ hS => hS.1) (Hid.out h5)) (Fr.fN (Hid.out H1)) ?_
  refine tL 1 _ rfl (jT (fun _ hS => hS.2) (Hid.out h6)) (Fr.fN (Hid.out H1)) ?_
  refine wI 2 (sW 2 H1 fun w8 o1 H8 => ?_)
  refine ⟨Fr.fN (Hid.out H8), ?_⟩
  refine wI 3 (sW 3 H8 fun w9 o2 H9 => ?_)
  refine ⟨Fr.fN (Hid.out H9), ?_⟩
  refine tV 4 _ (Fr.fN (Hid.out H9)) ?_
  refine tV 5 _ (Fr.fN (Hid.out H9)) ?_
  refine wD ?_
  repeat (first | go_values | go_skip | go_guarded | go_step | go_upon | go_in | go_back)
  (try simp only [Exit.inBlock, Exit.then])
  refine rT rfl (Fr.eU (Hid.out H9)) (Fr.Kx (Hid.out H9)) (gJ (Hid.out h5)) (pF (Hid.out h6)) ?_
  exact post w9 (fun _ => (ah.ak fY).trans (ox5 o1 o2)) H9) : p := h H post h5 h6
theorem rY {p : Prop} {X : World → Prop} (H : Hid (Fr w0 w [(C, 45), (D, 35), (E, 45), (F, 35)])) (post : ∀ w', (∀ Y, ah (XF Y w0.heap.size 4) w w') → Hid (Fr w0 w' [(C, 45), (D, 35), (C, 45), (D, 35)]) → X w') 
 (h5 : C.size = 26 := by first | exact aW _ _ _ _ | exact bD _ _) (h6 : D.size = 6 := by exact aT _ _) (h : Hid (Fr w0 w [(C, 45), (D, 35), (E, 45), (F, 35)]) → (∀ w', (∀ Y, ah (XF Y w0.heap.size 4) w w') → Hid (Fr w0 w' [(C, 45), (D, 35), (C, 45), (D, 35)]) → X w') → C.size = 26 → D.size = 6 → p := by
  intro H post' JX Tf
  have post := iD post'
  have h5 := iD JX
  have h6 := iD Tf
  clear post' JX Tf
  refine wI 5 (sW 2 H fun w8 o1 H8 => ?_)
  refine ⟨Fr.fN (Hid.out H8), ?_⟩
  refine wI 6 (sW 3 H8 fun w9 o2 H9 => ?_)
  refine ⟨Fr.fN (Hid.out H9), ?_⟩
  refine tV 7 _ (Fr.fN (Hid.out H9)) ?_
  refine tV 8 _ (Fr.fN (Hid.out H9)) ?_
  refine wD ?_
  repeat (first | go_values | go_skip | go_guarded | go_step | go_upon | go_in | go_back)
  (try simp only [Exit.inBlock, Exit.then])
  refine rT rfl (Fr.eU (Hid.out H9)) (Fr.Kx (Hid.out H9)) (gJ (Hid.out h5)) (pF (Hid.out h6)) ?_
  exact post w9 (fun _ => ox5 o1 o2) H9) : p := h H post h5 h6
theorem qw (h : f.ok) {B : Nat} (hx : ¬ (B * f.pg ≤ x ∧ x < B * f.pg + f.pg)) : aB (aR f (B : Int)).1 x = aB f x := by
 by_cases hd : f.aF = true
 ·unfold aR; rw [iP hd]
 by_cases hB : B < f.ar.length
 ·rcases (n7 h (by simpa using hd) hB).ok with ⟨_, _, e⟩ | ⟨_, _, e⟩ <;> rw [e, iN hx]
 unfold aR; rw [iN hd, iP oM]
theorem sE (h : f.ok) {P : Nat} {b : List Int} (hb : b.length = 64) (hx : x ≠ P) : aB (bz f (P : Int) b).1 x = aB f x := by
 by_cases ha : lY f (P : Int) = 0
 ·obtain ⟨hd, _, hP⟩ := rE ha
  have hP' : P < f.ar.length * f.pg := oM
  by_cases cB : aB f P = cL
  ·rcases (pZ h hd hP' hb cB).ok with ⟨_, _, e⟩ | ⟨_, _, e⟩ <;> rw [e, iN hx]
  have zW : ch (aB f P) = false := by
   cases nD : ch (aB f P) with
   | false => rfl
   | true => exact absurd ((iY (kj h hP')).1 nD) cB
  unfold bz
  rw [iN (by rw [ha]; simp), iN oM, Int.toNat_natCast, iP zW]
 unfold bz
 rw [iP ha]
theorem Oa (hf : f.ok) (ho : bC f s) (hb : s.bt = true) (hr : s.af = false) (hx : x < s.first * f.pg ∨ (s.first + s.aa) * f.pg ≤ x) : aB (eW s f).1 x = aB f x := by
 unfold eW
 split
 ·rw [show (s.first : Int) + (s.bH : Int) = ((s.first + s.bH : Nat) : Int) by push_cast; rfl]
  have h1 : (s.first + s.bH) * f.pg + f.pg ≤ (s.first + s.aa) * f.pg := by
   have := Nat.mul_le_mul_right f.pg (show s.first + s.bH + 1 ≤ s.first + s.aa by have := ho.tb; omega)
   rw [Nat.add_mul (s.first + s.bH), Nat.one_mul] at this
   exact this
  have h2 : s.first * f.pg ≤ (s.first + s.bH) * f.pg := Nat.mul_le_mul_right _ oM
  exact qw hf oM
 have hd := ho.dn hb hr
 obtain ⟨h1, h2⟩ := ho.sJ ho.tb ho.ts hd
 have hl : (s.cf[s.done]?.getD []).length = 64 := by
  obtain ⟨p, hp⟩ := getElem?_of_lt (l := s.cf) (k := s.done) (by rw [ho.pl hb]; exact hd)
  rw [hp]
  exact (ho.pb p (List.mem_of_getElem? hp)).1
 exact sE hf hl oM
theorem yp (hf : f.ok) (ho : bC f s) (hx : x < s.first * f.pg ∨ (s.first + s.aa) * f.pg ≤ x) : aB (aI s f).2.1 x = aB f x := by
 unfold aI
 split
 ·rfl
 rename_i h1
 split
 ·rfl
 rename_i h2
 have := Oa hf ho (by simpa using h2) (by simpa using h1) hx
 split
 ·exact this
 split <;> exact this
theorem N9 (hf : f.ok) (ho : bC f s) : (eW s f).1.ok := by
 unfold eW
 split
 ·exact kn hf
 refine nL hf ?_
 cases hp : s.cf[s.done]? with
 | none => exact Bytes.nil
 | some p => exact (ho.pb p (List.mem_of_getElem? hp)).2
theorem yo (hf : f.ok) (ho : bC f s) : (aI s f).2.1.ok := by
 unfold aI
 split
 ·exact hf
 split
 ·exact hf
 have := N9 hf ho
 split
 ·exact this
 split <;> exact this
theorem BK : ∀ (n : Nat) {f : Fl} {s : St} (hf : f.ok) (ho : bC f s) {x : Nat} (hx : x < s.first * f.pg ∨ (s.first + s.aa) * f.pg ≤ x), aB (ja n s f).2.1 x = aB f x ∧ (ja n s f).2.1.ok
 | 0, f, s, hf, ho, x, hx => ⟨rfl, hf⟩
 | n + 1, f, s, hf, ho, x, hx => by
  have h1 := yp hf ho hx
  have h2 := yo hf ho
  rw [fq]
  split
  ·exact ⟨h1, h2⟩
  have AZ := mK s f
  have js := gn s f
  obtain ⟨h3, h4⟩ := BK n h2 (mc ho) (x := x) (by rw [AZ.first, AZ.aa, js.p]; exact hx)
  exact ⟨h3.trans h1, h4⟩
theorem tZ (hf : f.ok) (ho : bC f s) (hx : x < s.first * f.pg ∨ (s.first + s.aa) * f.pg ≤ x) : aB (ay s f).2.1 x = aB f x ∧ (ay s f).2.1.ok := by
 unfold ay
 split
 ·exact ⟨rfl, hf⟩
 have AZ := lK s f
 exact BK 10 hf (my ho) (by rw [AZ.first, AZ.aa]; exact hx)
theorem vw : ∀ (n : Nat) (s : St) (f : Fl), ep f (ja n s f).2.1
 | 0, s, f => ep.refl f
 | n + 1, s, f => by
  rw [fq]
  split
  ·exact gn s f
  exact (gn s f).trans (vw n _ _)
theorem jt (s : St) (f : Fl) : ep f (ay s f).2.1 := by
 unfold ay
 split
 ·exact ep.refl f
 exact vw _ _ _
theorem tC (s : St) (f : Fl) : (aI s f).2.1.az = f.az := by
 unfold aI
 split
 ·rfl
 split
 ·rfl
 split
 ·exact yI s f
 split <;> exact yI s f
theorem vx : ∀ (n : Nat) (s : St) (f : Fl), (ja n s f).2.1.az = f.az
 | 0, s, f => rfl
 | n + 1, s, f => by
  rw [fq]
  split
  ·exact tC s f
  exact (vx n _ _).trans (tC s f)
theorem zO {a : Nat} (h : ∀ i, i < ew img.length → aB g (a + i) = gd (eQ img i)) : (g.img.drop (64 * a)).take img.length = img := by
 apply List.ext_getElem?
 intro i
 rw [List.getElem?_take]
 split
 ·rename_i hi
  have hk : i / 64 < ew img.length := by unfold ew; omega
  have hp : (aB g (a + i / 64))[i % 64]? = (gd (eQ img (i / 64)))[i % 64]? := by rw [h (i / 64) hk]
  unfold aB at hp
  rw [List.getElem?_take, iP (Nat.mod_lt _ oM), List.getElem?_drop] at hp
  rw [List.getElem?_drop, show 64 * a + i = 64 * (a + i / 64) + i % 64 by omega, hp]
  unfold gd eQ
  have hl : i % 64 < (List.take 64 (List.drop (64 * (i / 64)) img)).length := by rw [List.length_take, List.length_drop]; omega
  rw [List.getElem?_append_left hl, List.getElem?_take, iP (Nat.mod_lt _ oM), List.getElem?_drop, show 64 * (i / 64) + i % 64 = i by omega]
 rename_i hi
 rw [List.getElem?_eq_none oM]
structure RD (f : Fl) (s : St) (v : List Int) : Prop where
 sv : eo f s v none
 up : f.aF = false
 bu : s.bt = false
 br : s.af = false
 st : s.aj = s.saved
theorem tQ {fi bl : Nat} {sp : List eB} {v : List Int} (hs : ∀ p ∈ sp, p.ok) (he : cI f fi bl sp = 0) (h : eo f (aJ f fi bl sp) v none) : RD f (aJ f fi bl sp) v := by
 have hd := (jm he).1
 have hs := kl hs he
 exact ⟨h, hd, hs.re.2.2.2.2.2.2.2, hs.re.1, rfl⟩
theorem OS (h : f.up) {first : Nat} (hk : 1 ≤ k) (jE : k ≤ 8) (hw : first + (2 * k + 2) ≤ f.ar.length) (hp : 2 ≤ f.pg) (hi : Bytes img) (h2 : img.length ≤ aM f (2 * k + 2)) (v c : Int) : (iJ f first (2 * k + 2) v c img).1.seq ≤ 1 := by
 obtain ⟨g1, g2, g3, g4, g5, g6, g7, _⟩ := ig h hw hk hi h2
 have hsz := ef h.ok jE
 have qX : eC (eD f first (2 * k + 2) img) (first : Int) ((2 * k + 2 : Nat) : Int) = 0 := by
  unfold eC
  rw [iN (by rw [g1.dn]; decide), iN oM, iN (by rw [g3]; omega), iN (by rw [g2]; omega)]
 have oI := mj qX (aM f (2 * k + 2))
 have dc := iB (n := aM f (2 * k + 2)) oM
 have dX : ∀ x, first * (eD f first (2 * k + 2) img).pg ≤ x → x < (first + 2) * (eD f first (2 * k + 2) img).pg → aB (eD f first (2 * k + 2) img) x = cL := fun x h1 h2 => by
  rw [g2] at h1 h2
  have : (first + 2) * f.pg ≤ (first + (2 * k + 2)) * f.pg := Nat.mul_le_mul_right _ oM
  rw [g5, iN oM, iP oM]
 obtain ⟨-, -, -, -, -, -, -, -, -, -, YH, -⟩ := eo.ER g1.ok dX dc oI
 unfold iJ xS
 have e := og (aU (aU (aU (aJ (eD f first (2 * k + 2) img) first 2 (aH (aM f (2 * k + 2)))) 3 v) 4 (img.length : Int)) 5 c) (eD f first (2 * k + 2) img)
 rw [mg, mg, mg, YH] at e
 exact e
structure GS (g : Fl) (first k : Nat) (b : Bk) (v : Int) (img : List Int) : Prop where
 up : g.up
 oe : dU g (first : Int) ((2 * k + 2 : Nat) : Int) = 0
 ob : dh g (first : Int) ((2 * k + 2 : Nat) : Int) = b
 Vs : eC g (first : Int) ((2 * k + 2 : Nat) : Int) = 0
 nb : b = qg b.st first (2 * k + 2)
 ok : bU g b
 fr : RD g b.st [0, 2, 0, v, (img.length : Int), eS img, 0, 0, 0]
 sq : b.st.seq ≤ 2
 im : fv g b 0 img.length = img
theorem zC (h : f.up) {first : Nat} (hk : 1 ≤ k) (jE : k ≤ 8) (hw : first + (2 * k + 2) ≤ f.ar.length) (hp : 2 ≤ f.pg) (hi : Bytes img) (h1 : 1 ≤ img.length) (h2 : img.length ≤ aM f (2 * k + 2)) {v : Int} (hv : 1 ≤ v ∧ v ≤ 1073741824) :
 GS (iJ f first (2 * k + 2) v (eS img) img).2.1 first k (dh (iJ f first (2 * k + 2) v (eS img) img).2.1 first ((2 * k + 2 : Nat) : Int)) v img ∧ ep f (iJ f first (2 * k + 2) v (eS img) img).2.1 ∧ (iJ f first (2 * k + 2) v (eS img) img).2.1.az = f.az := by
 have hc := l6 img
 have fd := wv h hk jE hw hp hi h1 h2 hv (c := eS img) ⟨hc.1, by have := hc.2; omega⟩
 have rO := OS h hk jE hw hp hi h2 v (eS img)
 obtain ⟨g1, g2, g3, g4, g5, g6, g7, _⟩ := ig h hw hk hi h2
 have ab7 : aM (eD f first (2 * k + 2) img) (2 * k + 2) = aM f (2 * k + 2) := by unfold aM; rw [g2]
 have js : ep (eD f first (2 * k + 2) img) (iJ f first (2 * k + 2) v (eS img) img).2.1 := jt _ _
 have VX : (iJ f first (2 * k + 2) v (eS img) img).2.1.az = (eD f first (2 * k + 2) img).az := by
  unfold iJ ay
  split
  ·rfl
  exact vx _ _ _
 have VP : bC (eD f first (2 * k + 2) img) (xS (eD f first (2 * k + 2) img) first (aM f (2 * k + 2)) v img.length (eS img)) :=
  eH (eH (eH (kv fd.ok fd.op) (by unfold dI; omega)) (by have := ef h.ok jE; unfold dI; omega)) (by have := hc.1; have := hc.2; unfold dI; omega)
 have qZ : ∀ x, (first + 2) * f.pg ≤ x → aB (iJ f first (2 * k + 2) v (eS img) img).2.1 x = aB (eD f first (2 * k + 2) img) x := fun x hx => by
  refine (tZ g1.ok VP (.inr ?_)).1
  have e1 : (xS (eD f first (2 * k + 2) img) first (aM f (2 * k + 2)) v img.length (eS img)).first = first := by
   unfold xS
   rw [(eG _ _ _).first, (eG _ _ _).first, (eG _ _ _).first]
   exact (kl fd.ok fd.op).kp.f
  have e2 : (xS (eD f first (2 * k + 2) img) first (aM f (2 * k + 2)) v img.length (eS img)).aa = 2 := by
   unfold xS
   rw [(eG _ _ _).aa, (eG _ _ _).aa, (eG _ _ _).aa]
   exact (kl fd.ok fd.op).kp.b
  rw [e1, e2, g2]
  exact hx
 obtain ⟨q, hq⟩ := ex (iJ f first (2 * k + 2) v (eS img) img)
 have gE := fd.up
 have fL := fd.sv
 have gT := fd.sp
 have lk := fd.fi
 have cB := fd.bl
 rw [hq] at rO js VX qZ gE fL gT lk cB ⊢
 obtain ⟨N, hN⟩ := ex (aM f (2 * k + 2))
 have iA : q.2.1.pg = f.pg := js.p.trans g2
 have kC : q.2.1.ar.length = f.ar.length := js.w.trans g3
 have hNq : aM q.2.1 (2 * k + 2) = N := by unfold aM; rw [iA, ← hN]; rfl
 have qX : eC q.2.1 (first : Int) ((2 * k + 2 : Nat) : Int) = 0 := by
  unfold eC
  rw [iN (by rw [gE.dn]; decide), iN oM, iN (by rw [kC]; omega), iN (by rw [iA]; omega)]
 rw [hN] at gT h2
 obtain ⟨o1, o2, o3, o4, o5, o6⟩ := Em fL gE.dn gT lk cB
 have Nk : dh q.2.1 (first : Int) ((2 * k + 2 : Nat) : Int) = qg (aJ q.2.1 first 2 (aH N)) first (2 * k + 2) := by
  unfold dh
  rw [Int.toNat_natCast, Int.toNat_natCast, hNq]
 have Lz := oO gE.ok qX
 rw [Nk] at Lz ⊢
 have Ir : (aJ q.2.1 first 2 (aH N)).seq ≤ 2 := by
  have dX : aQ q.2.1 = q.2.1 := by unfold aQ; rw [iN (by rw [gE.dn]; decide)]
  obtain ⟨_, a2, _⟩ := gz.again (n := 1) ⟨⟨_, _, fL⟩, rO⟩ (by rw [gT]; exact ic N)
  rw [dX, gT, lk, cB] at a2
  exact a2.2
 have aai : ∀ p ∈ aH N, p.ok := by have := fd.ok; rw [hN] at this; exact this
 refine ⟨⟨gE, ?_, Nk, qX, rfl, Lz, tQ aai o1 o2, Ir, ?_⟩, ⟨iA, kC⟩, VX.trans g4⟩
 ·unfold dU
  rw [iN (by rw [qX]; decide), Int.toNat_natCast, Int.toNat_natCast, hNq]
  simp only [o3]
  rw [iN]
  show ¬ ((img.length : Nat) : Int) = 0
  omega
 unfold fv
 have Wy : cE (qg (aJ q.2.1 first 2 (aH N)) first (2 * k + 2)) 0 = first + 2 := by unfold cE; rw [Nat.zero_mul]; rfl
 rw [Wy, iA]
 refine zO fun i hi => ?_
 rw [qZ _ oM, g5, iP oM, Nat.add_sub_cancel_left]
theorem R2 (h : bU f b) : (aq b f).st.af = false ∨ (aq b f).af = true := by
 rcases h.br with e | e
 ·exact .inl e
 exact .inr (by show (b.af || f.aF) = true; rw [e]; rfl)
theorem gZ (h : bU f b) : bU f (aq b f) :=
 ⟨h.ok, h.sp, h.fi, h.bl, h.lg, R2 h, h.bk, h.k1, h.k8, h.fw, h.pg, h.slot, h.dst, h.DV, h.len, h.cH, h.er, h.dt, h.page⟩
theorem fS (h : (aq b f).af = false) : b.af = false ∧ f.aF = false := by
 have : (b.af || f.aF) = false := h
 simpa using this
theorem bU.Kr (h : bU f b) (hb : b.af = false) : b.st.af = false := by
 rcases h.br with e | e
 ·exact e
 rw [hb] at e; cases e
theorem bU.Um (h : bU f b) : b.st.aw.length = 9 := by rw [h.sp]; rfl
theorem bU.ne (h : bU f b) : ∀ d, b.data = some d → d ≠ [] := fun d hd e => by
 have := (h.dt d hd).1
 rw [e] at this
 simp at this
section
variable {w0 w w1 w' : World} {L L' : Lc} {S S' : Sc} {K K' : Kc} {f f' : Fl} {b b' : Bk}
theorem nA.then (h : bZ w w1 L S K L' S' K') (k : nA w0 w1 L' S' K' f b w') : nA w0 w L S K f b w' := by
 obtain ⟨L2, S2, K2, h1, h2⟩ := k
 exact ⟨L2, S2, K2, h.trans h1, h2⟩
theorem nA.mk' (h : bZ w w' L S K L' S' K') (k : bo w0 w' L' S' K' f b) : nA w0 w L S K f b w' := ⟨L', S', K', h, k⟩
theorem bZ.dj (h : ah (fun g => g = K.D) w w') : bZ w w' L S K L S K := bZ.mV h rfl (fun g _ h => h)
theorem bo.lit (h : bo w0 w L S K f b) (cs : Array Value) (l : List Int) (hl : cs.toList = aA l) (W : World) (hW : w.alloc (.cells cs 3) = W) :
 bo w0 W L S K f b ∧ bZ w W L S K L S K ∧ cn (bS L S) W (some ⟨w.heap.size, 0, none⟩) (aA l) := by
 have hb : bW w W := by rw [← hW]; exact bV.alloc cV _
 refine ⟨h.ab hb, bZ.ak hb, ?_⟩
 rw [← hW]
 refine KC (Rd.new w _ _ _ hl) (by rw [World.size_alloc]; exact Nat.le_refl _) (fun hx => ?_)
 have := h.st.cY _ (.inl hx)
 omega
theorem rm (h : bo w0 w L S K f b) (ho : bC f b.st) (ii : Int) (i : Nat) (Np : ii = i) (hi : i ≤ 9) (cs : Array Value) (l : List Int) (hl : cs.toList = aA l) (n : Nat) (hn : l.length = n) (YQ : n ≤ 9) (dc : ls b.st i l) (hI : ∀ x ∈ l, dI x) :
 Calls prog 74 #[.pointer (some ⟨K.D, 0, none⟩), .int .i64 ii, .slice (some ⟨w.heap.size, 0, none⟩) n n] (w.alloc (.cells cs 3)) fun e w' => e = .returned .nilIface ∧ bo w0 w' L S K f { b with st := dD b.st i l } ∧ bZ w w' L S K L S K := by
 obtain ⟨h1, h2, h3⟩ := h.lit cs l hl _ rfl
 refine (CH h1 ho ii i Np hi hn YQ h3 dc hI).mono ?_
 rintro e w' ⟨he, hk, hx⟩
 exact ⟨he, hk, h2.trans (bZ.iT hx rfl rfl)⟩
def YA (w0 w : World) (L : Lc) (S : Sc) (K : Kc) (q : Bk × Fl × Int × Int) (e : Ending) (w' : World) : Prop :=
 e = .returned (.tuple #[.int .i64 q.2.2.1, fx q.2.2.2]) ∧ nA w0 w L S K q.2.1 q.1 w'
theorem yZ (h : bo w0 w L S K f b) (ho : bU f b) : Calls prog 19 #[.pointer (some ⟨K.D, 0, none⟩)] w (YA w0 w L S K (cy b f)) := by
 have g1 := ne_nil
 have g2 := fT
 have g3 := eq_nil
 have g4 := LZ
 have HR := iD (ff h)
 have HO := iD (gZ ho)
 have h9 := ho.Um
 by_cases cO : (aq b f).af = true
 ·have HB : Hid (cy b f = (aq b f, f, 0, 20)) := by unfold cy; rw [Hid, iP cO]
  rw [iP cO, dJ (by decide)] at HR
  clear h ho cO h9
  go_enter func19, ntmps19
  go_wp2_with (fail)
  refine HR.mono ?_
  rintro e w1 ⟨rfl, hK, hX⟩
  have HK := iD hK
  have HX := iD hX
  clear hK hX
  go_wp2
  go_ret2
  rw [HB]
  exact ⟨rfl, .mk' (.dj HX) HK⟩
 have jF : (aq b f).af = false := by simpa using cO
 rw [iN cO, bG] at HR
 have HU := iD (fS jF)
 have pO := iD (ho.Kr HU.1)
 by_cases hs : b.slot ≠ 2
 ·have HB : Hid (cy b f = (aq b f, f, 0, 12)) := by unfold cy; rw [Hid, iN cO, iP hs]
  have s1 : ¬ (b.slot : Int) = 2 := oM
  have s2 : ((b.slot : Int) == 2) = false := by simpa using s1
  clear h ho cO h9 jF hs
  go_enter func19, ntmps19
  go_wp2_with (fail)
  refine HR.mono ?_
  rintro e w1 ⟨rfl, hK, hX⟩
  have HK := iD hK
  have HX := iD hX
  have c5 : w1.cell? ⟨K.D, 5, none⟩ = some (.int .i64 b.slot) := hK.row 5 _ rfl
  clear hK hX
  go_wp2
  go_ret2
  rw [HB]
  exact ⟨rfl, .mk' (.dj HX) HK⟩
 have je : b.slot = 2 := oM
 obtain ⟨va, vt, vk, v0, l0, c0, v1, l1, c1, hv, b1, b2, b3, -⟩ := ho.vec
 have Ck : aV b 0 = (va : Int) := by unfold aV; rw [hv]; rfl
 have iG : aV b 1 = (vt : Int) := by unfold aV; rw [hv]; rfl
 have jA : aV b 2 = (vk : Int) := by unfold aV; rw [hv]; rfl
 have J1 : Hid (aV (aq b f) 0 = (va : Int)) := Ck
 have uW : Hid (aV (aq b f) 1 = (vt : Int)) := iG
 have xW : Hid (aV (aq b f) 2 = (vk : Int)) := jA
 have jQ : Hid ((aq b f).st.aw.length = 9) := h9
 have xC := iD ho.sp
 by_cases ht : vt = 2
 ·have HB : Hid (cy b f = ({ aq b f with slot := va }, f, (va : Int), 0)) := by
   unfold cy
   rw [Hid, iN cO, iN hs, iG, iP oM, Ck, Int.toNat_natCast]
  subst ht
  clear h ho cO h9 jF hs hv Ck iG jA
  go_enter func19, ntmps19
  go_wp2_with (fail)
  refine HR.mono ?_
  rintro e w1 ⟨rfl, hK, hX⟩
  have HK := iD hK
  have HX := iD hX
  have c5 : w1.cell? ⟨K.D, 5, none⟩ = some (.int .i64 b.slot) := hK.row 5 _ rfl
  rw [je] at c5
  clear hK hX
  go_wp2_with (fail)
  refine (cF HK HO.ok 0 0 rfl (by rw [jQ]; omega)).mono ?_
  rintro e w2 ⟨rfl, hB⟩
  rw [J1]
  have fI := iD (HK.ab hB)
  have nz : Hid (bZ w w2 L S K L S K) := (bZ.dj HX).trans (bZ.ak hB)
  clear hB
  go_wp2_with (fail)
  refine (cF fI HO.ok 1 1 rfl (by rw [jQ]; omega)).mono ?_
  rintro e w3 ⟨rfl, hB⟩
  rw [uW]
  have pB := iD (fI.ab hB)
  have G7 : Hid (bZ w w3 L S K L S K) := nz.trans (bZ.ak hB)
  have d5 : w3.cell? ⟨K.D, 5, none⟩ = some (.int .i64 b.slot) := pB.row 5 _ rfl
  have z5 := pB.fz 5
  have HC := iD (pB.jX 5 (.int .i64 va) { aq b f with slot := va } rfl rfl rfl rfl)
  clear hB
  go_wp2
  go_ret2
  rw [HB]
  exact ⟨rfl, .mk' (G7.trans (.dj HC.2)) HC.1⟩
 have hE : ∃ (i : Nat) (ii x run : Int) (rn : Nat), ii = i ∧ run = rn ∧ ((0 < vk ∧ i = 2 ∧ ii = 2 ∧ x = (vk : Int) - 1 ∧ run = vt ∧ rn = vt) ∨ (vk = 0 ∧ i = 1 ∧ ii = 1 ∧ x = 2 ∧ run = va ∧ rn = va)) ∧ ls b.st i [x] ∧ dI x ∧
  cy b f = if (ay (dD b.st i [x]) f).2.2 ≠ 0 then ({ aq b f with st := (ay (dD b.st i [x]) f).1, af := true }, (ay (dD b.st i [x]) f).2.1, 0, 20) else ({ aq b f with st := (ay (dD b.st i [x]) f).1, slot := rn }, (ay (dD b.st i [x]) f).2.1, run, 0) := by
  by_cases hk : 0 < vk
  ·refine ⟨2, 2, (vk : Int) - 1, vt, vt, rfl, rfl, .inl ⟨hk, rfl, rfl, rfl, rfl, rfl⟩, ⟨(mP pO xC (i := 2) (p := ⟨0, 3, 0⟩) rfl ⟨by simp only; omega, by simp only; omega⟩).1, trivial⟩, by unfold dI; omega, ?_⟩
   unfold cy
   rw [iN cO, iN hs, iG, iN oM, jA]
   simp only [iP (show (0 : Int) < (vk : Int) by omega), Int.toNat_natCast]
   rfl
  have Bb : vk = 0 := oM
  refine ⟨1, 1, 2, va, va, rfl, rfl, .inr ⟨Bb, rfl, rfl, rfl, rfl, rfl⟩, ⟨(mP pO xC (i := 1) (p := ⟨0, 2, 2⟩) rfl ⟨by simp only; omega, by simp only; omega⟩).1, trivial⟩, by unfold dI; omega, ?_⟩
  unfold cy
  rw [iN cO, iN hs, iG, iN oM, jA]
  simp only [iN (show ¬ (0 : Int) < (vk : Int) by omega), Ck, Int.toNat_natCast]
  rfl
 obtain ⟨i, ii, x, run, rn, Np, hrn, kX, dc, Om, hBB⟩ := hE
 have uh := iD hBB
 have gX : Hid (ls (aq b f).st i [x]) := dc
 have acI := iD Om
 have XH : Hid (bC f (dD b.st i [x])) := lu ho.ok (fun y hy => by rw [List.mem_singleton] at hy; subst hy; exact Om)
 have JN : ¬ (vt : Int) = 2 := oM
 have Ng : ((vt : Int) == 2) = false := by simpa using JN
 have Rr := iD hrn
 have OG : i ≤ 9 := by rcases kX with h | h <;> omega
 have FS : Hid (∀ w4 : World, bo w0 w4 L S K f (aq b f) → Calls prog 74 #[.pointer (some ⟨K.D, 0, none⟩), .int .i64 ii, .slice (some ⟨w4.heap.size, 0, none⟩) 1 1] (w4.alloc (.cells #[.int .i64 x] 3)) fun e w' => e = .returned .nilIface ∧ bo w0 w' L S K f { aq b f with st := dD b.st i [x] } ∧ bZ w4 w' L S K L S K) :=
  fun w4 hK => rm hK ho.ok ii i Np OG #[.int .i64 x] [x] rfl 1 rfl oM dc (fun y hy => by rw [List.mem_singleton] at hy; subst hy; exact Om)
 obtain ⟨q, hq⟩ := ex (ay (dD b.st i [x]) f)
 have CM : Hid (∀ w5 : World, bL w0 w5 L S f (dD b.st i [x]) → Calls prog 67 #[.pointer (some ⟨S.D, 0, none⟩)] w5 (nk w0 w5 L S q)) := fun w5 hs => by
  have := wM hs XH
  rw [hq] at this
  exact this
 rw [hq] at uh
 obtain ⟨qs, qf, qe⟩ := q
 simp only at uh
 clear h ho cO h9 jF hs hv Ck iG jA hBB dc Om hq Np
 rcases kX with ⟨hk, rfl, rfl, rfl, rfl, rfl⟩ | ⟨hk, rfl, rfl, rfl, rfl, rfl⟩
 all_goals
  try (have ux : (0 : Int) < (vk : Int) := oM)
  go_enter func19, ntmps19
  go_wp2_with (fail)
  refine HR.mono ?_
  rintro e w1 ⟨rfl, hK, hX⟩
  have HK := iD hK
  have HX := iD hX
  have c5 : w1.cell? ⟨K.D, 5, none⟩ = some (.int .i64 b.slot) := hK.row 5 _ rfl
  rw [je] at c5
  clear hK hX
  go_wp2_with (fail)
  refine (cF HK HO.ok 0 0 rfl (by rw [jQ]; omega)).mono ?_
  rintro e w2 ⟨rfl, hB⟩
  rw [J1]
  have fI := iD (HK.ab hB)
  have nz : Hid (bZ w w2 L S K L S K) := (bZ.dj HX).trans (bZ.ak hB)
  clear hB c5
  go_wp2_with (fail)
  refine (cF fI HO.ok 1 1 rfl (by rw [jQ]; omega)).mono ?_
  rintro e w3 ⟨rfl, hB⟩
  rw [uW]
  have pB := iD (fI.ab hB)
  have G7 : Hid (bZ w w3 L S K L S K) := nz.trans (bZ.ak hB)
  clear hB
  go_wp2_with (fail)
  refine (cF pB HO.ok 2 2 rfl (by rw [jQ]; omega)).mono ?_
  rintro e w4 ⟨rfl, hB⟩
  rw [xW]
  have uX := iD (pB.ab hB)
  have JF : Hid (bZ w w4 L S K L S K) := G7.trans (bZ.ak hB)
  clear hB
  go_wp2_with (fail)
  refine (FS _ uX).mono ?_
  rintro e w5 ⟨rfl, hK, hA⟩
  have pA := iD hK
  have JE : Hid (bZ w w5 L S K L S K) := JF.trans hA
  have c3 : w5.cell? ⟨K.D, 3, none⟩ = some (.pointer (some ⟨S.D, 0, none⟩)) := hK.row 3 _ rfl
  have ug := iD (CM _ hK.st)
  unfold nk at ug
  clear hK hA
  by_cases Ss : qe = 0
  ·rw [iN (by rw [Ss]; decide)] at uh
   simp only at ug
   rw [Ss, bG] at ug
   clear Ss
   go_wp2_with (fail)
   refine ug.mono ?_
   rintro e w6 ⟨rfl, ⟨S6, Bf, Bd, Gv⟩, oJ⟩
   have oz := iD (pA.prog Gv Bf Bd oJ)
   have M6 : Hid (bZ w w6 L S K L S6 K) := JE.trans (bZ.iT oJ Bf Bd)
   have d5 : w6.cell? ⟨K.D, 5, none⟩ = some (.int .i64 b.slot) := oz.row 5 _ rfl
   have z5 := oz.fz 5
   have HC := iD (oz.jX 5 (.int .i64 rn) { aq b f with st := qs, slot := rn } rfl rfl rfl rfl)
   clear Bf Bd Gv oJ c3
   go_wp2
   go_ret2
   rw [uh]
   exact ⟨rfl, .mk' (M6.trans (.dj HC.2)) HC.1⟩
  rw [iP Ss] at uh
  simp only at ug
  rw [dJ Ss] at ug
  clear Ss
  go_wp2_with (fail)
  refine ug.mono ?_
  rintro e w6 ⟨rfl, ⟨S6, Bf, Bd, Gv⟩, oJ⟩
  have oz := iD (pA.prog Gv Bf Bd oJ)
  have M6 : Hid (bZ w w6 L S K L S6 K) := JE.trans (bZ.iT oJ Bf Bd)
  clear Bf Bd Gv oJ c3
  go_wp2_with (fail)
  refine (oQ oz).mono ?_
  rintro e w7 ⟨rfl, hK, hX⟩
  have TR := iD hK
  have T8 : Hid (bZ w w7 L S K L S6 K) := M6.trans (.dj hX)
  clear hK hX
  go_wp2
  go_ret2
  rw [uh]
  exact ⟨rfl, .mk' T8 TR⟩
end
theorem O8 (c d : Int) (w : World) : (binOp .eql 57 (.iface 108 (.int .i64 c)) (.iface 108 (.int .i64 d))).run prog w = .ok (.bool (c == d)) w := by kernel_rfl
section
variable {w0 w w1 w' : World} {L L' : Lc} {S S' : Sc} {K K' : Kc} {f f' : Fl} {b b' : Bk}
def xq (w0 w : World) (L : Lc) (S : Sc) (K : Kc) (f : Fl) (q : Bk × Int) (e : Ending) (w' : World) : Prop :=
 e = .returned (fx q.2) ∧ nA w0 w L S K f q.1 w'
theorem EU (h : bo w0 w L S K f b) : Calls prog 43 #[.pointer (some ⟨K.D, 0, none⟩)] w (xq w0 w L S K f (ej b f)) := by
 have g1 := ne_nil
 have g2 := fT
 have HR := iD (ff h)
 by_cases cO : (aq b f).af = true
 ·have HB : Hid (ej b f = (aq b f, 20)) := by unfold ej; rw [Hid, iP cO]
  rw [iP cO, dJ (by decide)] at HR
  clear h cO
  go_enter func43, ntmps43
  go_wp2_with (fail)
  refine HR.mono ?_
  rintro e w1 ⟨rfl, hK, hX⟩
  have HK := iD hK
  have HX := iD hX
  clear hK hX
  go_wp2
  go_ret
  rw [HB]
  exact ⟨rfl, .mk' (.dj HX) HK⟩
 rw [iN cO, bG] at HR
 by_cases hu : b.au = false
 ·have HB : Hid (ej b f = (aq b f, 12)) := by unfold ej; rw [Hid, iN cO, iP hu]
  clear h cO
  go_enter func43, ntmps43
  go_wp2_with (fail)
  refine HR.mono ?_
  rintro e w1 ⟨rfl, hK, hX⟩
  have HK := iD hK
  have HX := iD hX
  have c6 : w1.cell? ⟨K.D, 6, none⟩ = some (.bool b.au) := hK.row 6 _ rfl
  rw [hu] at c6
  clear hK hX hu
  go_wp2
  go_ret
  rw [HB]
  exact ⟨rfl, .mk' (.dj HX) HK⟩
 have Si : b.au = true := by simpa using hu
 have HB : Hid (ej b f = ({ aq b f with au := false, erase := [], data := none }, 0)) := by unfold ej; rw [Hid, iN cO, iN hu]
 clear h cO hu
 go_enter func43, ntmps43
 go_wp2_with (fail)
 refine HR.mono ?_
 rintro e w1 ⟨rfl, hK, hX⟩
 have HK := iD hK
 have HX := iD hX
 have c6 : w1.cell? ⟨K.D, 6, none⟩ = some (.bool b.au) := hK.row 6 _ rfl
 rw [Si] at c6
 have uI := iD (HK.jX 6 (.bool false) { aq b f with au := false } rfl rfl rfl rfl)
 have G5 := iD (uI.1.cell 11 (.slice none 0 0) { K with v := .slice none 0 0 } { aq b f with au := false, erase := [] } rfl rfl rfl (QS.nil _ _ _) (fun g hg => by cases hg) uI.1.dt)
 have ye := iD (G5.1.cell 13 (.slice none 0 0) { K with v := .slice none 0 0, A := none, n := 0, c := 0 } { aq b f with au := false, erase := [], data := none } rfl rfl rfl (QS.nil _ _ _) (fun g hg => by cases hg) ⟨rfl, rfl, rfl⟩)
 have z6 := hK.fz 6
 have Kb := hK.fz 11
 have Ka := hK.fz 13
 have rZ : w1.cell? ⟨K.D, 11, none⟩ = some K.v := hK.row 11 _ rfl
 have DI : w1.cell? ⟨K.D, 13, none⟩ = some (.slice K.A K.n K.c) := hK.row 13 _ rfl
 clear hK hX Si
 go_wp2
 go_ret
 rw [HB]
 refine ⟨rfl, L, S, { K with v := .slice none 0 0, A := none, n := 0, c := 0 }, ?_, ye.1⟩
 exact (bZ.dj HX).trans ((bZ.dj uI.2).trans ((bZ.mV G5.2 (K' := { K with v := .slice none 0 0 }) rfl (fun g _ hg => by cases hg)).trans (bZ.mV ye.2 rfl (fun g _ hg => hg))))
def BL (b : Bk) : Int × Int := if b.slot = 2 then (2, 0) else ((b.slot : Int), aV b (3 + 3 * b.slot))
theorem Ad (h : bo w0 w L S K f b) (ho : bU f b) : Calls prog 21 #[.pointer (some ⟨K.D, 0, none⟩)] w fun e w' => e = .returned (.tuple #[.int .i64 (BL b).1, .int .i64 (BL b).2]) ∧ bW w w' := by
 have e1 := wC K.D
 have c5 := h.row 5 _ rfl
 have HK := iD h
 by_cases hs : b.slot = 2
 ·have HR : Hid (BL b = (2, 0)) := by unfold BL; rw [Hid, iP hs]
  rw [hs] at c5
  clear h ho hs
  go_enter func21, ntmps21
  go_wp2
  go_ret2
  rw [HR]
  exact ⟨rfl, Below.refl _ _⟩
 have HR : Hid (BL b = ((b.slot : Int), aV b (3 + 3 * b.slot))) := by unfold BL; rw [Hid, iN hs]
 have je := ho.slot
 have uv : b.slot ≤ 1 := oM
 obtain ⟨s, Cn⟩ := ex b.slot
 have H9 := iD ho.Um
 have HO := iD ho
 rw [Cn] at c5 uv HR
 have Sq : ¬ (s : Int) = 2 := oM
 have hs5 : ((s : Int) == 2) = false := by simpa using Sq
 have q1 : IntKind.i64.wrap (3 * (s : Int)) = 3 * (s : Int) := IntWalk.i64_in _ oM
 have q2 : IntKind.i64.wrap (3 + 3 * (s : Int)) = 3 + 3 * (s : Int) := IntWalk.i64_in _ oM
 have iO : Hid (∀ W, bW w W → W.cell? ⟨K.D, 5, none⟩ = some (.int .i64 s)) := fun W hB => by have := (HK.ab hB).row 5 _ rfl; rw [Cn] at this; exact this
 have HS : Hid (∀ W, bW w W → Calls prog 68 #[.pointer (some ⟨K.D, 0, none⟩), .int .i64 (3 + 3 * (s : Int))] W fun e w' => e = .returned (.int .i64 (aV b (3 + 3 * s))) ∧ bW w w') := fun W hB => by
  refine (cF (HK.ab hB) HO.ok (3 + 3 * (s : Int)) (3 + 3 * s) (by push_cast; rfl) (by rw [H9]; omega)).mono ?_
  rintro e w' ⟨he, hb⟩
  exact ⟨he, hB.trans (hb.mono hB.size)⟩
 clear h ho hs Cn je
 go_enter func21, ntmps21
 go_wp2_with (fail)
 go_region_held3 (fun w' => w'.cell? ⟨K.D, 5, none⟩ = some (.int .i64 s)) (first | go_keep | exact iO _ jG) (first
  | (go_at_call 68; refine (HS _ (by repeat (first | exact Below.refl _ _ | refine Below.drew ?_ | refine Below.drewN ?_ _))).mono ?_; rintro e wp ⟨rfl, jG⟩))
 all_goals
  go_wp2
  go_ret2
  rw [HR]
  exact ⟨rfl, jG⟩
theorem pV (s : St) (i v : Int) : (aU s i v).af = s.af ∧ (aU s i v).bt = s.bt ∧ (aU s i v).seq = s.seq ∧ (aU s i v).saved = s.saved ∧ (aU s i v).aw = s.aw ∧ (aU s i v).aj.length = s.aj.length ∧ (aU s i v).first = s.first ∧ (aU s i v).aa = s.aa := by
 unfold aU
 split
 ·exact ⟨rfl, rfl, rfl, rfl, rfl, List.length_set .., rfl, rfl⟩
 exact ⟨rfl, rfl, rfl, rfl, rfl, rfl, rfl, rfl⟩
theorem gY : ∀ (l : List Int) (s : St) (i : Nat), (dD s i l).af = s.af ∧ (dD s i l).bt = s.bt ∧ (dD s i l).seq = s.seq ∧ (dD s i l).saved = s.saved ∧ (dD s i l).aw = s.aw ∧ (dD s i l).aj.length = s.aj.length ∧ (dD s i l).first = s.first ∧ (dD s i l).aa = s.aa
 | [], s, i => ⟨rfl, rfl, rfl, rfl, rfl, rfl, rfl, rfl⟩
 | v :: l, s, i => by
  obtain ⟨a1, a2, a3, a4, a5, a6, a7, a8⟩ := gY l (aU s i v) (i + 1)
  obtain ⟨b1, b2, b3, b4, b5, b6, b7, b8⟩ := pV s i v
  exact ⟨a1.trans b1, a2.trans b2, a3.trans b3, a4.trans b4, a5.trans b5, a6.trans b6, a7.trans b7, a8.trans b8⟩
theorem wU (h1 : s.af = false) (h2 : f.aF = false) (h3 : s.bt = false) (h4 : 0 ≤ s.seq) (h5 : s.seq ≤ 1000000) (h6 : s.aj.length = 9) : aO s f = 0 ∨ aO s f = 12 := by
 unfold aO
 rw [h1, h2, iN (by decide), h3, iN (by decide)]
 split
 ·exact .inr rfl
 left
 unfold fU
 rw [iN oM]
theorem CI (h : bo w0 w L S K f b) (ho : bC f b.st) (he : aO b.st f = 0 ∨ aO b.st f = 12) : Calls prog 89 #[.pointer (some ⟨K.D, 0, none⟩)] w fun e w' => e = .returned .nilIface ∧ nA w0 w L S K f (jw b b.st f) w' := by
 have g1 := ne_nil
 have g2 := fT
 have g3 := eq_nil
 have g4 := LZ
 have g5 := O8 12 12
 have c3 := h.row 3 _ rfl
 have HK := iD h
 have HB := iD (zd h.st ho)
 unfold qD at HB
 rcases he with he | he
 ·have HR : Hid (jw b b.st f = { b with st := aZ b.st f, bh := true }) := by unfold jw; rw [Hid, iP he]
  rw [he, bG] at HB
  clear h ho he
  go_enter func89, ntmps89
  go_wp2_with (fail)
  refine HB.mono ?_
  rintro e w1 ⟨rfl, ⟨S1, xz, tW, gF⟩, lW⟩
  have J6 := iD (HK.prog gF xz tW lW)
  have HA1 : Hid (bZ w w1 L S K L S1 K) := bZ.iT lW xz tW
  have Ml : w1.cell? ⟨K.D, 14, none⟩ = some (.bool b.bh) := J6.row 14 _ rfl
  have Ha := J6.fz 14
  have HC := iD (J6.jX 14 (.bool true) { b with st := aZ b.st f, bh := true } rfl rfl rfl rfl)
  clear gF xz tW lW c3
  go_wp2
  go_ret
  rw [HR]
  exact ⟨rfl, .mk' (HA1.trans (.dj HC.2)) HC.1⟩
 have HR : Hid (jw b b.st f = { b with st := aZ b.st f }) := by unfold jw; rw [Hid, iN (by rw [he]; decide)]
 rw [he, dJ (by decide)] at HB
 clear h ho he
 go_enter func89, ntmps89
 go_wp2_with (fail)
 refine HB.mono ?_
 rintro e w1 ⟨rfl, ⟨S1, xz, tW, gF⟩, lW⟩
 have J6 := iD (HK.prog gF xz tW lW)
 have HA1 : Hid (bZ w w1 L S K L S1 K) := bZ.iT lW xz tW
 clear gF xz tW lW c3
 go_wp2
 go_ret
 rw [HR]
 exact ⟨rfl, .mk' HA1 J6⟩
theorem Ae (h : bo w0 w L S K f b) (ho : bU f b) (lh : b.af = false → b.bh = false → b.st.bt = false) (rO : b.st.seq ≤ 1000000) : Calls prog 45 #[.pointer (some ⟨K.D, 0, none⟩)] w (xq w0 w L S K f (bJ b f)) := by
 have g1 := ne_nil
 have g2 := fT
 have HR := iD (ff h)
 have HO := iD (gZ ho)
 have h9 := ho.Um
 by_cases cO : (aq b f).af = true
 ·have HB : Hid (bJ b f = (aq b f, 20)) := by unfold bJ; rw [Hid, iP cO]
  rw [iP cO, dJ (by decide)] at HR
  clear h ho cO lh rO h9
  go_enter func45, ntmps45
  go_wp2_with (fail)
  refine HR.mono ?_
  rintro e w1 ⟨rfl, hK, hX⟩
  have HK := iD hK
  have HX := iD hX
  clear hK hX
  go_wp2
  go_ret
  rw [HB]
  exact ⟨rfl, .mk' (.dj HX) HK⟩
 have jF : (aq b f).af = false := by simpa using cO
 rw [iN cO, bG] at HR
 have HU := iD (fS jF)
 have pO := iD (ho.Kr HU.1)
 by_cases hs : b.slot = 2
 ·have HB : Hid (bJ b f = (aq b f, 12)) := by unfold bJ; rw [Hid, iN cO, iP (.inl hs)]
  clear h ho cO h9 jF lh rO
  go_enter func45, ntmps45
  go_wp2_with (fail)
  refine HR.mono ?_
  rintro e w1 ⟨rfl, hK, hX⟩
  have HK := iD hK
  have HX := iD hX
  have c5 : w1.cell? ⟨K.D, 5, none⟩ = some (.int .i64 b.slot) := hK.row 5 _ rfl
  rw [hs] at c5
  clear hK hX hs
  go_wp2_with (fail)
  go_quiet (fail)
  go_wp2
  go_ret
  rw [HB]
  exact ⟨rfl, .mk' ((bZ.dj HX).trans (bZ.ak (Below.drewN bV _))) (HK.ab (Below.drewN bV _))⟩
 obtain ⟨va, vt, vk, v0, l0, c0, v1, l1, c1, hv, b1, b2, b3, -⟩ := ho.vec
 have iG : aV b 1 = (vt : Int) := by unfold aV; rw [hv]; rfl
 have uW : Hid (aV (aq b f) 1 = (vt : Int)) := iG
 have jQ : Hid ((aq b f).st.aw.length = 9) := h9
 have xC := iD ho.sp
 have je := ho.slot
 obtain ⟨s, Cn⟩ := ex b.slot
 rw [Cn] at hs je
 have uv : s ≤ 1 := oM
 have Sq : ¬ (s : Int) = 2 := oM
 have hs5 : ((s : Int) == 2) = false := by simpa using Sq
 have Jv := iD Cn
 have TK : Hid (∀ w1 : World, bo w0 w1 L S K f (aq b f) → w1.cell? ⟨K.D, 5, none⟩ = some (.int .i64 s) ∧ (∀ W, bW w1 W → W.cell? ⟨K.D, 5, none⟩ = some (.int .i64 s)) ∧ ∀ W, bW w1 W → Calls prog 68 #[.pointer (some ⟨K.D, 0, none⟩), .int .i64 1] W fun e w' => e = .returned (.int .i64 vt) ∧ bW w1 w') := fun w1 hK => by
  refine ⟨?_, fun W hB => ?_, fun W hB => ?_⟩
  ·have := hK.row 5 _ rfl
   rw [show (aq b f).slot = s from Cn] at this
   exact this
  ·have := (hK.ab hB).row 5 _ rfl
   rw [show (aq b f).slot = s from Cn] at this
   exact this
  refine (cF (hK.ab hB) HO.ok 1 1 rfl (by rw [jQ]; omega)).mono ?_
  rintro e w' ⟨he, hb⟩
  rw [uW] at he
  exact ⟨he, hB.trans (hb.mono hB.size)⟩
 by_cases Sj : vt = s
 ·subst Sj
  have tn : Hid (∀ d, (aq b f).data = some d → d ≠ []) := ho.ne
  by_cases hw : bQ b = true
  ·have jP : Hid (bQ (aq b f) = true) := hw
   have HB : Hid (bJ b f = (aq b f, 14)) := by unfold bJ; rw [Hid, iN cO, iN (by rw [iG, Cn]; omega), iP hw]
   clear h ho cO h9 jF lh rO hv iG Cn hs je hw
   go_enter func45, ntmps45
   go_wp2_with (fail)
   refine HR.mono ?_
   rintro e w1 ⟨rfl, hK, hX⟩
   have HK := iD hK
   have HX := iD hX
   obtain ⟨c5, lG, Cz⟩ := TK w1 hK
   have iO := iD lG
   have P5 := iD Cz
   clear hK hX lG Cz
   go_wp2_with (fail)
   go_region_held3 (fun w' => w'.cell? ⟨K.D, 5, none⟩ = some (.int .i64 vt)) (first | go_keep | exact iO _ jG) (first
    | (go_at_call 68; refine (P5 _ (by repeat (first | exact Below.refl _ _ | refine Below.drew ?_ | refine Below.drewN ?_ _))).mono ?_; rintro e wp ⟨rfl, jG⟩))
   all_goals
    have fI := iD (HK.ab jG)
    have nz : Hid (bZ w wp L S K L S K) := (bZ.dj HX).trans (bZ.ak jG)
    have d5 : wp.cell? ⟨K.D, 5, none⟩ = some (.int .i64 vt) := iO _ jG
    clear jG c5
    go_wp2_with (fail)
    refine (dG fI tn).mono ?_
    rintro e w3 ⟨rfl, rfl⟩
    rw [jP]
    go_wp2
    go_ret
    rw [HB]
    exact ⟨rfl, .mk' nz fI⟩
  have xu : bQ b = false := by simpa using hw
  have jP : Hid (bQ (aq b f) = false) := xu
  have HB : Hid (bJ b f = (jw (aq b f) (kO b) f, 0)) := by unfold bJ; rw [Hid, iN cO, iN (by rw [iG, Cn]; omega), iN hw]
  have xO : b.bh = false := by unfold bQ at xu; simp only [Bool.or_eq_false_iff] at xu; exact xu.2
  have nU := lh HU.1 xO
  have dc : ls b.st 0 [(vt : Int), 2, 0] := by
   obtain ⟨x1, x2⟩ := mP pO xC (i := 0) (p := ⟨0, 1, 0⟩) (v := (vt : Int)) rfl ⟨by simp only; omega, by simp only; omega⟩
   obtain ⟨y1, y2⟩ := mP (s := aU b.st ((0 : Nat) : Int) (vt : Int)) (by rw [x2]; exact pO) (by rw [x2]; exact xC) (i := 1) (p := ⟨0, 2, 2⟩) (v := 2) rfl ⟨by simp only; omega, by simp only; omega⟩
   obtain ⟨z1, z2⟩ := mP (s := aU (aU b.st ((0 : Nat) : Int) (vt : Int)) ((1 : Nat) : Int) 2) (by rw [y2, x2]; exact pO) (by rw [y2, x2]; exact xC) (i := 2) (p := ⟨0, 3, 0⟩) (v := 0) rfl ⟨by simp only; omega, by simp only; omega⟩
   exact ⟨x1, y1, z1, trivial⟩
  have hI : ∀ x ∈ [(vt : Int), 2, 0], dI x := fun x hx => by
   simp only [List.mem_cons, List.not_mem_nil, or_false] at hx
   rcases hx with rfl | rfl | rfl <;> (unfold dI; omega)
  have kX : kO b = dD b.st 0 [(vt : Int), 2, 0] := by unfold kO; rw [Cn]
  have XH : Hid (bC f (kO b)) := by rw [Hid, kX]; exact lu ho.ok hI
  have FS : Hid (∀ w4 : World, bo w0 w4 L S K f (aq b f) → Calls prog 74 #[.pointer (some ⟨K.D, 0, none⟩), .int .i64 0, .slice (some ⟨w4.heap.size, 0, none⟩) 3 3] (w4.alloc (.cells #[.int .i64 vt, .int .i64 2, .int .i64 0] 3)) fun e w' => e = .returned .nilIface ∧ bo w0 w' L S K f { aq b f with st := kO b } ∧ bZ w4 w' L S K L S K) := fun w4 hK => by
   rw [kX]
   exact rm hK ho.ok 0 0 rfl oM #[.int .i64 vt, .int .i64 2, .int .i64 0] [(vt : Int), 2, 0] rfl 3 rfl oM dc hI
  have FRC : Hid (∀ w5 : World, bo w0 w5 L S K f { aq b f with st := kO b } → Calls prog 89 #[.pointer (some ⟨K.D, 0, none⟩)] w5 fun e w' => e = .returned .nilIface ∧ nA w0 w5 L S K f (jw (aq b f) (kO b) f) w') := fun w5 hK => by
   obtain ⟨k1, k2, k3, k4, k5, k6, -, -⟩ := gY [(vt : Int), 2, 0] b.st 0
   rw [← kX] at k1 k2 k3 k6
   exact CI hK XH (wU (k1.trans pO) HU.2 (k2.trans nU) (by show 0 ≤ (kO b).seq; rw [k3]; exact ho.ok.q1) (by show (kO b).seq ≤ 1000000; rw [k3]; exact rO) (k6.trans (by rw [ho.ok.tl]; exact h9)))
  clear h ho cO h9 jF lh rO hv iG Cn hs je hw xu xO nU dc hI kX
  go_enter func45, ntmps45
  go_wp2_with (fail)
  refine HR.mono ?_
  rintro e w1 ⟨rfl, hK, hX⟩
  have HK := iD hK
  have HX := iD hX
  obtain ⟨c5, lG, Cz⟩ := TK w1 hK
  have iO := iD lG
  have P5 := iD Cz
  clear hK hX lG Cz
  go_wp2_with (fail)
  go_region_held3 (fun w' => w'.cell? ⟨K.D, 5, none⟩ = some (.int .i64 vt)) (first | go_keep | exact iO _ jG) (first
   | (go_at_call 68; refine (P5 _ (by repeat (first | exact Below.refl _ _ | refine Below.drew ?_ | refine Below.drewN ?_ _))).mono ?_; rintro e wp ⟨rfl, jG⟩))
  all_goals
   have fI := iD (HK.ab jG)
   have nz : Hid (bZ w wp L S K L S K) := (bZ.dj HX).trans (bZ.ak jG)
   have d5 : wp.cell? ⟨K.D, 5, none⟩ = some (.int .i64 vt) := iO _ jG
   clear jG c5
   go_wp2_with (fail)
   refine (dG fI tn).mono ?_
   rintro e w3 ⟨rfl, rfl⟩
   rw [jP]
   go_wp2_with (fail)
   refine (FS _ fI).mono ?_
   rintro e w4 ⟨rfl, hK, hA⟩
   have JF : Hid (bZ w w4 L S K L S K) := nz.trans hA
   have HF4 := iD (FRC _ hK)
   clear hK hA d5
   go_wp2_with (fail)
   refine HF4.mono ?_
   rintro e w5 ⟨rfl, hk⟩
   have pA := iD hk
   clear hk
   go_wp2
   go_ret
   rw [HB]
   exact ⟨rfl, .then JF pA⟩
 have HB : Hid (bJ b f = (aq b f, 12)) := by unfold bJ; rw [Hid, iN cO, iP (.inr (by rw [iG, Cn]; omega))]
 have JN : ¬ (vt : Int) = (s : Int) := oM
 have Ng : ((vt : Int) == (s : Int)) = false := by simpa using JN
 clear h ho cO h9 jF lh rO hv iG Cn hs je Sj
 go_enter func45, ntmps45
 go_wp2_with (fail)
 refine HR.mono ?_
 rintro e w1 ⟨rfl, hK, hX⟩
 have HK := iD hK
 have HX := iD hX
 obtain ⟨c5, lG, Cz⟩ := TK w1 hK
 have iO := iD lG
 have P5 := iD Cz
 clear hK hX lG Cz
 go_wp2_with (fail)
 go_region_held3 (fun w' => w'.cell? ⟨K.D, 5, none⟩ = some (.int .i64 s)) (first | go_keep | exact iO _ jG) (first
  | (go_at_call 68; refine (P5 _ (by repeat (first | exact Below.refl _ _ | refine Below.drew ?_ | refine Below.drewN ?_ _))).mono ?_; rintro e wp ⟨rfl, jG⟩))
 all_goals
  go_wp2
  go_ret
  rw [HB]
  exact ⟨rfl, .mk' ((bZ.dj HX).trans (bZ.ak jG)) (HK.ab jG)⟩
end
theorem Hf (l : List Int) (a j : Nat) : (l.drop (64 * a)).take (64 * (j + 1)) = (l.drop (64 * a)).take (64 * j) ++ (l.drop (64 * (a + j))).take 64 := by
 rw [show 64 * (j + 1) = 64 * j + 64 by omega, List.take_add, List.drop_drop, show 64 * a + 64 * j = 64 * (a + j) by omega]
section
variable {w0 w w1 w' : World} {L L' : Lc} {S S' : Sc} {K K' : Kc} {f f' : Fl} {b b' : Bk} {s : St}
theorem mf (ho : bU f b) (hw : f.ar.length ≤ 64) (hp : f.pg ≤ 16) {s : Nat} (hs : s ≤ 1) : cE b s * f.pg + b.k * f.pg ≤ f.ar.length * f.pg ∧ aM f b.aa = b.k * f.pg * 64 := by
 constructor
 ·rw [← Nat.add_mul]
  refine Nat.mul_le_mul_right _ ?_
  unfold cE
  have h1 := ho.fw
  have h2 := ho.bk
  have h3 := Nat.mul_le_mul_right b.k hs
  omega
 unfold aM Bk.k
 rfl
theorem yY (h : bo w0 w L S K f b) (ho : bU f b) (hd : f.aF = false) (s n : Nat) (hs : s ≤ 1) (hn : 1 ≤ n) (qY : n ≤ aM f b.aa) (X : Nat → Prop) (hX : ∀ g, X g → g < w.heap.size) :
 Calls prog 76 #[.pointer (some ⟨K.D, 0, none⟩), .int .i64 s, .int .i64 n] w fun e w' => ∃ A c, e = .returned (.tuple #[.slice A n c, .nilIface]) ∧ n ≤ c ∧ c ≤ maxLen ∧ cn X w' A (ag .u8 (fv f b s n)) ∧ (fv f b s n).length = n ∧ bW w w' := by
 have g1 := ne_nil
 obtain ⟨i5, rS, jd, jc, jb⟩ := info_parts kz
 have kC := h.st.fl.ok.b2
 have iA := h.st.fl.ok.p2
 obtain ⟨qG, nQ⟩ := mf ho kC iA hs
 have nX : f.ar.length * f.pg ≤ 1024 := gx h.st.fl.ok
 obtain ⟨B1, JV⟩ := ex (cE b s)
 obtain ⟨P, hP⟩ := ex f.pg
 obtain ⟨Q, hQ⟩ := ex (B1 * P)
 have hQi : (B1 : Int) * (P : Int) = (Q : Int) := by rw [← hQ]; push_cast; rfl
 have WT : B1 ≤ 82 := by
  rw [← JV]; unfold cE
  have := Nat.mul_le_mul hs ho.k8
  have := ho.fw
  omega
 have lk : b.first ≤ 64 := by have := ho.fw; omega
 have Rz : Hid (b.first ≤ 64) := lk
 have uJ : Hid (b.aa = 2 * b.k + 2 ∧ b.k ≤ 8) := ⟨ho.bk, ho.k8⟩
 obtain ⟨J, hJ⟩ := ex ((n + 63) / 64)
 have hJ1 : n ≤ 64 * J ∧ 64 * J < n + 64 := oM
 have hJr : Q + J ≤ 1024 := by
  rw [JV, hP, hQ] at qG
  rw [hP] at nQ nX
  generalize b.k * P = kp at qG nQ
  omega
 have hJw : Q + J ≤ f.ar.length * f.pg := by
  rw [JV, hP, hQ] at qG
  rw [hP] at nQ
  rw [hP]
  generalize b.k * P = kp at qG nQ
  omega
 have hlen : f.img.length = f.ar.length * f.pg * 64 := h.st.fl.ok.len
 have J3 : Hid (∀ j, j < J → ft f ((Q + j : Nat) : Int) = (aB f (Q + j), 0) ∧ (aB f (Q + j)).length = 64) := fun j hj =>
  ⟨qO hd oM, kj h.st.fl.ok oM⟩
 have PW : Hid (fv f b s n = ((f.img.drop (64 * Q)).take (64 * J)).take n) := by
  unfold fv
  rw [Hid, JV, hP, hQ, List.take_take, Nat.min_eq_left oM]
 have uF : Hid ((fv f b s n).length = n) := by
  unfold fv
  rw [Hid, JV, hP, hQ, List.length_take, List.length_drop, hlen]
  omega
 have HJL : Hid (((f.img.drop (64 * Q)).take (64 * J)).length = 64 * J) := by
  rw [Hid, List.length_take, List.length_drop, hlen]
  omega
 have HK := iD h
 have iO : Hid (∀ W, bW w W → W.cell? ⟨K.D, 0, none⟩ = some (.pointer (some ⟨L.d, 0, none⟩))) := fun W hB => (HK.ab hB).row 0 _ rfl
 have T5 : Hid (∀ W, bW w W → Calls prog 86 #[.pointer (some ⟨K.D, 0, none⟩), .int .i64 s] W fun e w' => e = .returned (.int .i64 B1) ∧ ∃ q, w' = W.drewN q) := fun W hB => by
  have := qu (HK.ab hB) uJ.1 uJ.2 Rz (s : Int) s rfl oM
  rw [JV] at this
  exact this
 have FE : Hid (∀ W, bW w W → Calls prog 61 #[.pointer (some ⟨L.d, 0, none⟩)] W fun e w' => e = .returned (.int .i64 P) ∧ w' = W) := fun W hB => by
  have := ir (HK.ab hB).st.fl
  rw [hP] at this
  exact this.mono (fun e w' hh => ⟨hh.1, hh.2.symm⟩)
 have UX : Hid (∀ j, j < J → ∀ W, bW w W → Calls prog 108 #[.pointer (some ⟨L.d, 0, none⟩), .int .i64 ((Q : Int) + (j : Int))] W fun e w' => ∃ A' c', e = .returned (.tuple #[.slice A' 64 c', .nilIface]) ∧ Rd w' w'.heap.size A' (ag .u8 (aB f (Q + j))) ∧ bW W w') := fun j hj W hB => by
  have := vC (HK.ab hB).st.fl ((Q + j : Nat) : Int)
  obtain ⟨e1, e2⟩ := J3 j hj
  rw [e1, bG] at this
  simp only at this
  rw [e2] at this
  rw [show (Q : Int) + (j : Int) = ((Q + j : Nat) : Int) by push_cast; rfl]
  refine this.mono ?_
  rintro e w' ⟨v', he, ho, hb⟩
  obtain ⟨A', c', rfl, _, _, hr⟩ := bM ho
  exact ⟨A', c', he, hr, hb⟩
 have HX := iD hX
 clear h ho hd kC iA qG nQ nX JV hP hQ lk hJ hJw hlen hX qY
 obtain ⟨uU, hJ3⟩ := hJ1
 go_enter func76, ntmps76
 go_wp2_with (fail)
 go_loopw [8, 9] (fun v i wr => ∃ j : Nat, j ≤ J ∧ i = .int .i64 j ∧ wr.ownsRow w.heap.size 5 1 v (64 * j) (ag .u8 ((f.img.drop (64 * Q)).take (64 * j))) ∧ bW w wr) (fun _ i _ => J - (intOf i).toNat)
 case atStart => exact ⟨0, Nat.zero_le _, rfl, World.ownsRow_nil .., Below.refl _ _⟩
 case round =>
  obtain ⟨j, hj, rfl, hO, hB⟩ := hrel
  obtain ⟨A1, c1, rfl, h1, h2, -⟩ := a9 hO
  have HO := iD hO
  have HB := iD hB
  have c0 := iO _ hB
  clear hO hB
  by_cases aY : j < J
  ·have Zq := iD (UX j aY)
   have TQ : Hid (∀ W, bW wr W → W.cell? ⟨K.D, 0, none⟩ = some (.pointer (some ⟨L.d, 0, none⟩))) := fun W hb => iO _ (HB.trans (hb.mono HB.size))
   have abB : Hid (∀ W, bW wr W → Calls prog 86 #[.pointer (some ⟨K.D, 0, none⟩), .int .i64 s] W fun e w' => e = .returned (.int .i64 B1) ∧ ∃ q, w' = W.drewN q) := fun W hb => T5 _ (HB.trans (hb.mono HB.size))
   have abk : Hid (∀ W, bW wr W → Calls prog 61 #[.pointer (some ⟨L.d, 0, none⟩)] W fun e w' => e = .returned (.int .i64 P) ∧ w' = W) := fun W hb => FE _ (HB.trans (hb.mono HB.size))
   have abe : Hid (∀ q, Calls prog 108 #[.pointer (some ⟨L.d, 0, none⟩), .int .i64 ((Q : Int) + (j : Int))] (wr.drewN q) fun e w' => ∃ A' c', e = .returned (.tuple #[.slice A' 64 c', .nilIface]) ∧ Rd w' w'.heap.size A' (ag .u8 (aB f (Q + j))) ∧ bW wr w') := fun q => by
    have hb := Below.drewN (Below.refl wr.heap.size wr) q
    refine (Zq _ (HB.trans (hb.mono HB.size))).mono ?_
    rintro e w' ⟨A', c', he, hr, dP⟩
    exact ⟨A', c', he, hr, hb.trans (dP.mono hb.size)⟩
   have q1 : IntKind.i64.wrap (Q : Int) = (Q : Int) := IntWalk.i64_in _ oM
   have q2 : IntKind.i64.wrap ((Q : Int) + (j : Int)) = (Q : Int) + (j : Int) := IntWalk.i64_in _ oM
   go_wp2_with (fail)
   go_region_held3 (fun w9 => w9.cell? ⟨K.D, 0, none⟩ = some (.pointer (some ⟨L.d, 0, none⟩))) (first | exact TQ _ (Below.drewN bV _) | exact TQ _ (Below.drew bV) | exact TQ _ jG | go_keep) (first
    | (go_at_call 86; refine (abB _ (by first | exact Below.refl _ _ | exact Below.drewN bV _ | exact Below.drew bV)).mono ?_; rintro e wp ⟨rfl, qb, rfl⟩)
    | (go_at_call 61; refine (abk _ (by first | exact Below.refl _ _ | exact Below.drewN bV _ | exact Below.drew bV)).mono ?_; rintro e wp ⟨rfl, rfl⟩)
    | (go_at_call 108; refine (abe _).mono ?_; rintro e wb ⟨A2, c2, rfl, Lm, jG⟩))
   all_goals
    have mB : Hid (wb.ownsRow w.heap.size 5 1 (.slice A1 (64 * j) c1) (64 * j) (ag .u8 ((f.img.drop (64 * Q)).take (64 * j)))) := aC HO jG
    have gh : Hid (bW w wb) := HB.trans (jG.mono HB.size)
    have mD := iD Lm
    have HL9 : Hid ((ag .u8 (aB f (Q + j))).length = 64 * 1) := by rw [Hid, aD]; exact (J3 j aY).2
    have Bl : Hid (w.heap.size ≤ wb.heap.size) := gh.size
    have eX : Hid ((f.img.drop (64 * Q)).take (64 * (j + 1)) = (f.img.drop (64 * Q)).take (64 * j) ++ aB f (Q + j)) := Hf f.img Q j
    clear jG Lm c0
    go_wp2_with (at_builtin; refine aN _ rfl _ _ 32 rfl w.heap.size 5 i5 (.int .u8 0) 1 1 underlying32 rS jd jc jb rfl oM _ (64 * j) (ag .u8 ((f.img.drop (64 * Q)).take (64 * j))) rfl mB wb.heap.size A2 64 c2 (ag .u8 (aB f (Q + j))) rfl mD HL9 (cZ _ _) (by unfold maxLen; omega) oM Bl ?_)
    intro v' w2 bY hgrow kg
    have jI : Hid (bW w w2) := gh.grown hgrow Bl (fun k hk => (mB.lt k hk).1)
    rw [← dp, ← eX, show 64 * j + 64 = 64 * (j + 1) by omega] at bY
    obtain ⟨A3, c3, rfl, h4, h5, -⟩ := a9 bY
    have se := iD bY
    clear bY hgrow kg
    go_wp2
    go_roundw
    case rel => exact ⟨j + 1, oM, by go_num, se, jI⟩
    case measure => simp [intOf]; omega
  have hjJ : j = J := oM
  subst hjJ
  obtain ⟨A2, c2, e2, -, -, vT⟩ := a9 HO
  injection e2 with UO Zc Tn
  obtain ⟨g2, e3, -⟩ := vT oM
  rw [e3] at UO
  subst UO
  have HF : Hid (cn X wr (some ⟨g2, 0, none⟩) (ag .u8 (fv f b s n))) := by
   rw [Hid, PW]
   refine (lA (by rw [aD]; exact HJL) HO HX).part ?_
   unfold ag
   rw [List.map_take]
   exact List.take_prefix _ _
  have qm : n ≤ c1 := oM
  have HH2 := iD h2
  have HNC := iD qm
  unfold maxLen at h2
  clear Zc Tn vT e3 c0
  go_wp2
  go_ret2
  exact ⟨_, c1, rfl, HNC, HH2, HF, uF, HB⟩
end
theorem dW.R7 (h : dW f s) (hs : ep f g) (dc : g.ok) (hd : g.aF = false) (iA : ∀ x, s.first * f.pg ≤ x → x < (s.first + s.aa) * f.pg → aB g x = aB f x) : dW g s := by
 have nC : ∀ b j i, b < s.aa → j < bm s f → i < s.k → aB g (aG s f b j + i) = aB f (aG s f b j + i) := fun b j i hb hj hi => by
  obtain ⟨h1, h2⟩ := h.ok.sJ hb hj hi
  exact iA _ h1 h2
 have Ni : ∀ b j, aG s g b j = aG s f b j := hs.aG s
 have lR := hs.BG s
 refine ⟨dc, h.ok.shape hs, hd, h.br, fun x h1 h2 => ?_, ?_, h.q0, h.xr, h.uR, fun hb => ?_⟩
 ·rw [hs.p] at h1 h2
  rw [iA x h1 h2]
  exact h.By x h1 h2
 ·exact h.new.congr rfl rfl hs.p (fun b j hb hj => dF rfl rfl hs.p (fun i hi => nC b j i hb hj hi))
 have t := h.Bz hb
 refine ⟨t.cN, t.vl, t.lg, t.ne, t.nx, t.er, fun he i hi => ?_⟩
 rw [Ni, nC _ _ _ h.ok.tb h.ok.ts hi]
 exact t.pre he i hi
def Qe (f : Fl) : Fl := { f with aF := false }
theorem Kg (h : f.aF = false) : Qe f = f := by
 unfold Qe
 obtain ⟨_, _, _, _, _, _⟩ := f
 simp only at h
 subst h
 rfl
theorem DY (h : f.ok) : (Qe f).ok := ⟨h.p1, h.p2, h.b1, h.b2, h.len, h.wP, h.yB, h.LK, h.LJ⟩
theorem dW.KZ (h : dW f s) (hs : ep f g) (dc : g.ok) (iA : ∀ x, s.first * f.pg ≤ x → x < (s.first + s.aa) * f.pg → aB g x = aB f x) : dW (Qe g) s :=
 h.R7 (g := Qe g) ⟨hs.p, hs.w⟩ (DY dc) rfl iA
def xU (f : Fl) (s : St) (o : Option (List Int)) : Prop := (dW (Qe f) s ∧ o = if s.bt = true then some s.values else none) ∨ (xp f s ∧ o = some s.values)
theorem xU.live (h : dW f s) : xU f s (if s.bt = true then some s.values else none) := .inl ⟨by rw [Kg h.up]; exact h, rfl⟩
theorem xU.be {o : Option (List Int)} (h : xU f s o) (hf : f.ok) {p : List Int} (hp : Bytes p) (hn : n < 9223372036854775808) : xU (fM f n p) s o := by
 have dc := nY (n := n) hf hp hn
 rcases h with ⟨h1, h2⟩ | ⟨h1, h2⟩
 ·exact .inl ⟨h1.fl (g := Qe (fM f n p)) rfl rfl rfl rfl (DY dc), h2⟩
 exact .inr ⟨h1.fl (g := fM f n p) rfl rfl rfl rfl dc, h2⟩
theorem tF (h : f.aF = false) : aQ f = f := by unfold aQ; rw [iN (by rw [h]; decide)]
theorem tH (f : Fl) : aQ (aQ f) = aQ f := tF (ik f).2.2.2
theorem xU.again {o : Option (List Int)} (h : xU f s o) (hf : f.ok) (fh : s.aw.any fy = false) : cI (aQ f) s.first s.aa s.aw = 0 ∧ eo (aQ f) (aJ (aQ f) s.first s.aa s.aw) (aJ (aQ f) s.first s.aa s.aw).saved none ∧ ((aJ (aQ f) s.first s.aa s.aw).saved = s.saved ∨ o = some (aJ (aQ f) s.first s.aa s.aw).saved) ∧ Same s (aJ (aQ f) s.first s.aa s.aw) := by
 rcases h with ⟨h1, h2⟩ | ⟨h1, h2⟩
 ·obtain ⟨e1, e2, e3, e4⟩ := ik f
  have hl : dW (aQ f) s := h1.fl (g := aQ f) e1 e2 e3 e4 (me hf)
  have hs : eo (aQ f) s s.saved o := ⟨rfl, .inl ⟨hl, h2⟩⟩
  have := hs.again fh
  rw [tH] at this
  exact this
 have hs : eo f s s.saved o := ⟨rfl, .inr ⟨h1, h2⟩⟩
 exact hs.again fh
theorem xU.seq {o : Option (List Int)} (h : xU f s o) (hf : f.ok) (fh : s.aw.any fy = false) (hn : s.seq ≤ n) : (aJ (aQ f) s.first s.aa s.aw).seq ≤ n + 1 := by
 rcases h with ⟨h1, h2⟩ | ⟨h1, h2⟩
 ·obtain ⟨e1, e2, e3, e4⟩ := ik f
  have hl : dW (aQ f) s := h1.fl (g := aQ f) e1 e2 e3 e4 (me hf)
  have hs : eo (aQ f) s s.saved o := ⟨rfl, .inl ⟨hl, h2⟩⟩
  have := (gz.again (f := aQ f) (s := s) (n := n) ⟨⟨_, _, hs⟩, hn⟩ fh).2.1.2
  rw [tH] at this
  exact this
 have hs : eo f s s.saved o := ⟨rfl, .inr ⟨h1, h2⟩⟩
 exact (gz.again (f := f) (s := s) (n := n) ⟨⟨_, _, hs⟩, hn⟩ fh).2.1.2
structure jJ (f : Fl) (b : Bk) (n : Int) : Prop where
 ok : bU f b
 fo : f.ok
 lv : b.af = false → f.aF = false → dW f b.st ∧ b.bh = b.st.bt
 dn : b.af = false → f.aF = false
 JM : ∃ o, xU f b.st o
 Ag : ∀ e ∈ b.erase, ((b.first + 2 : Nat) : Int) ≤ e ∧ e < ((b.first + b.aa : Nat) : Int)
 Ge : ∀ d, b.data = some d → (b.first + 2) * f.pg ≤ b.page ∧ b.page < (b.first + b.aa) * f.pg
 sq : b.st.seq ≤ n
 ul : b.au = true → 1 ≤ b.length
theorem jJ.more {m : Int} (h : jJ f b n) (hm : n ≤ m) : jJ f b m := ⟨h.ok, h.fo, h.lv, h.dn, h.JM, h.Ag, h.Ge, Int.le_trans h.sq hm, h.ul⟩
theorem jJ.fk (h : jJ f b n) : jJ f (aq b f) n := by
 refine ⟨gZ h.ok, h.fo, fun hb hd => h.lv (fS hb).1 hd, fun hb => (fS hb).2, h.JM, h.Ag, h.Ge, h.sq, h.ul⟩
theorem jJ.with {c : Bk} (h : jJ f b n) (dc : bU f c) (dX : c.st = b.st) (cO : c.af = b.af) (xO : c.bh = b.bh) (he : ∀ e ∈ c.erase, ((c.first + 2 : Nat) : Int) ≤ e ∧ e < ((c.first + c.aa : Nat) : Int)) (hp : ∀ d, c.data = some d → (c.first + 2) * f.pg ≤ c.page ∧ c.page < (c.first + c.aa) * f.pg) (hu : c.au = true → 1 ≤ c.length) : jJ f c n :=
 ⟨dc, h.fo, fun hb hd => by rw [dX, xO]; rw [cO] at hb; exact h.lv hb hd, fun hb => by rw [cO] at hb; exact h.dn hb, by rw [dX]; exact h.JM, he, hp, by rw [dX]; exact h.sq, hu⟩
theorem Mu (h : jJ f b n) (dc : ∀ v l, bU f (cz b f v l).1) (v l : Int) : jJ f (cz b f v l).1 n := by
 have ho := dc v l
 revert ho
 unfold cz
 split
 ·exact fun _ => h.fk
 split
 ·exact fun _ => h.fk
 split
 ·exact fun _ => h.fk
 split
 ·exact fun _ => h.fk
 rename_i hr
 intro ho
 have nQ : 1 ≤ l ∧ l ≤ (aM f b.aa : Nat) := Classical.byContradiction fun e => hr (.inr e)
 refine h.fk.with ho rfl rfl rfl (fun e he => ?_) h.fk.Ge (fun _ => ?_)
 ·have he' : e ∈ (List.range b.k).map fun (i : Nat) => ((cE b (1 - (aV b 0).toNat) + i : Nat) : Int) := he
  obtain ⟨i, hi, rfl⟩ := List.mem_map.1 he'
  have hi := List.mem_range.1 hi
  have h1 : (1 - (aV b 0).toNat) * b.k ≤ 1 * b.k := Nat.mul_le_mul_right _ oM
  have h3 := h.ok.bk
  show ((b.first + 2 : Nat) : Int) ≤ _ ∧ _ < ((b.first + b.aa : Nat) : Int)
  unfold cE
  omega
 show 1 ≤ l.toNat
 omega
theorem LS (h : bU f b) (hf : f.ok) {x : List Int} (hx : Bytes x) : bU f (dH b f x).1 ∧ (b.cH ≤ b.length → ∀ d, (dH b f x).2 = 0 → (dH b f x).1.data = some d → (b.first + 2) * f.pg ≤ (dH b f x).1.page ∧ (dH b f x).1.page < (b.first + b.aa) * f.pg) := by
 have h' := gZ h
 unfold dH
 split
 ·exact ⟨h', fun _ d hd => by cases hd⟩
 split
 ·exact ⟨h', fun _ d hd => by cases hd⟩
 rename_i h2
 split
 ·exact ⟨h', fun _ d hd => by cases hd⟩
 split
 ·exact ⟨h', fun _ d hd => by cases hd⟩
 rename_i h4
 have h4' : x.length = min 64 (b.length - b.cH) := Classical.byContradiction h4
 have gU : b.cH ≠ b.length := fun e => h2 (.inr e)
 have IA := h.cH
 have hlen := h.len
 obtain ⟨qG, nQ⟩ := mf h hf.b2 hf.p2 (s := b.dst) h.dst
 have nX := gx hf
 have Wc : cE b b.dst * f.pg + b.cH / 64 < (b.first + b.aa) * f.pg ∧ (b.first + 2) * f.pg ≤ cE b b.dst * f.pg + b.cH / 64 := by
  constructor
  ·have e1 : cE b b.dst + b.k ≤ b.first + b.aa := by
    unfold cE
    have := Nat.mul_le_mul_right b.k h.dst
    have := h.bk
    omega
   have e2 := Nat.mul_le_mul_right f.pg e1
   rw [Nat.add_mul] at e2
   rw [nQ] at hlen
   generalize b.k * f.pg = x1 at *
   omega
  have : b.first + 2 ≤ cE b b.dst := by unfold cE; omega
  have := Nat.mul_le_mul_right f.pg this
  omega
 have DA := Nat.mul_le_mul_right f.pg h.fw
 refine ⟨⟨h'.ok, h'.sp, h'.fi, h'.bl, h'.lg, h'.br, h'.bk, h'.k1, h'.k8, h'.fw, h'.pg, h'.slot, h'.dst, h'.DV, h'.len, by show b.cH + x.length ≤ b.length; omega, h'.er, fun d hd => ?_, by show cE b b.dst * f.pg + b.cH / 64 < 1024; omega⟩, fun _ d _ hd => ⟨Wc.2, Wc.1⟩⟩
 have e : gd x = d := by injection hd
 subst e
 exact ⟨eR oM, kt hx⟩
theorem O0 (h : jJ f b n) {x : List Int} (hx : Bytes x) : jJ f (dH b f x).1 n := by
 obtain ⟨ho, hp⟩ := LS h.ok h.fo hx
 have hp := hp h.ok.cH
 revert ho hp
 unfold dH
 split
 ·exact fun _ _ => h.fk
 split
 ·exact fun _ _ => h.fk
 split
 ·exact fun _ _ => h.fk
 split
 ·exact fun _ _ => h.fk
 intro ho hp
 exact h.fk.with ho rfl rfl rfl h.fk.Ag (fun d hd => hp d rfl hd) h.fk.ul
theorem MC (h : jJ f b n) : jJ f (ej b f).1 n := by
 have h' := h.fk
 unfold ej
 split
 ·exact h'
 split
 ·exact h'
 have ho := h'.ok
 refine h'.with ⟨ho.ok, ho.sp, ho.fi, ho.bl, ho.lg, ho.br, ho.bk, ho.k1, ho.k8, ho.fw, ho.pg, ho.slot, ho.dst, ho.DV, ho.len, ho.cH, fun e he => (by cases he), fun d hd => (by cases hd), ho.page⟩ rfl rfl rfl (fun e he => by cases he) (fun d hd => by cases hd) (fun e => by cases e)
theorem qj (s : Int) : (dr b f s).1 = aq b f := by
 unfold dr
 repeat' split
 all_goals rfl
theorem bU.bc (ho : bU f b) {s : Nat} (hs : s ≤ 1) : ∃ v l c : Nat, aV b (3 + 3 * s) = v ∧ aV b (4 + 3 * s) = l ∧ aV b (5 + 3 * s) = c ∧ v ≤ 1073741824 ∧ l ≤ aM f b.aa ∧ c < 4294967296 := by
 obtain ⟨va, vt, vk, v0, l0, c0, v1, l1, c1, hv, b1, b2, b3, b4, b5, b6, b7, b8, b9⟩ := ho.vec
 match s, hs with
 | 0, _ => exact ⟨v0, l0, c0, by unfold aV; rw [hv]; rfl, by unfold aV; rw [hv]; rfl, by unfold aV; rw [hv]; rfl, b4, b5, b6⟩
 | 1, _ => exact ⟨v1, l1, c1, by unfold aV; rw [hv]; rfl, by unfold aV; rw [hv]; rfl, by unfold aV; rw [hv]; rfl, b7, b8, b9⟩
section
variable {w0 w w1 w' : World} {L L' : Lc} {S S' : Sc} {K K' : Kc} {f f' : Fl} {b b' : Bk} {s : St}
def PA (w0 w : World) (L : Lc) (S : Sc) (K : Kc) (f : Fl) (q : Bk × List Int × Int) (e : Ending) (w' : World) : Prop :=
 ∃ A n c, e = .returned (.tuple #[.slice A n c, fx q.2.2]) ∧ q.2.1.length = n ∧ n ≤ c ∧ c ≤ maxLen ∧ (∀ X : Nat → Prop, (∀ g, X g → g < w.heap.size) → cn X w' A (ag .u8 q.2.1)) ∧ nA w0 w L S K f q.1 w'
theorem PA.no {q : Bk × List Int × Int} {c : Int} {b1 : Bk} (hq : q = (b1, [], c)) (hc : c ≠ 0) (hb : nA w0 w L S K f b1 w') : PA w0 w L S K f q (.returned (.tuple #[.slice none 0 0, .iface 108 (.int .i64 c)])) w' := by
 subst hq
 exact ⟨none, 0, 0, by rw [dJ hc], rfl, Nat.le_refl _, Nat.zero_le _, fun X hX => cn.nil, hb⟩
theorem wy (h : bo w0 w L S K f b) (ho : bU f b) (si : Int) : Calls prog 20 #[.pointer (some ⟨K.D, 0, none⟩), .int .i64 si] w (PA w0 w L S K f (dr b f si)) := by
 have g1 := ne_nil
 have g2 := fT
 have HR := iD (ff h)
 have HO := iD (gZ ho)
 have h9 := ho.Um
 by_cases cO : (aq b f).af = true
 ·have HB : Hid (dr b f si = (aq b f, [], 20)) := by unfold dr; rw [Hid, iP cO]
  rw [iP cO, dJ (by decide)] at HR
  clear h ho cO h9
  go_enter func20, ntmps20
  go_wp2_with (fail)
  refine HR.mono ?_
  rintro e w1 ⟨rfl, hK, hX⟩
  have HK := iD hK
  have HX := iD hX
  clear hK hX
  go_wp2
  go_ret2
  exact .no HB (by decide) (.mk' (.dj HX) HK)
 have jF : (aq b f).af = false := by simpa using cO
 rw [iN cO, bG] at HR
 have HU := iD (fS jF)
 have HW := iD (l5 si 0 1)
 by_cases Co : 0 ≤ si ∧ si ≤ 1
 case neg =>
  have HB : Hid (dr b f si = (aq b f, [], 10)) := by unfold dr; rw [Hid, iN cO, iP Co]
  rw [decide_eq_false Co] at HW
  clear h ho cO h9 jF Co
  go_enter func20, ntmps20
  go_wp2_with (fail)
  refine HR.mono ?_
  rintro e w1 ⟨rfl, hK, hX⟩
  have HK := iD hK
  have HX := iD hX
  clear hK hX
  go_wp2_with (fail)
  refine (HW _).mono ?_
  rintro e w2 ⟨rfl, rfl⟩
  go_wp2
  go_ret2
  exact .no HB (by decide) (.mk' (.dj HX) HK)
 rw [decide_eq_true Co] at HW
 obtain ⟨s, Cn⟩ : ∃ s : Nat, si = s := ⟨si.toNat, oM⟩
 subst Cn
 have gF : s ≤ 1 := oM
 obtain ⟨vv, l, cc, iG, jA, yQ, dC, dP, gV⟩ := ho.bc gF
 have xW : Hid (aV (aq b f) (4 + 3 * s) = (l : Int)) := jA
 have Ro : Hid (aV (aq b f) (5 + 3 * s) = (cc : Int)) := yQ
 have jQ : Hid ((aq b f).st.aw.length = 9) := h9
 have SV : Hid (∀ w1 : World, bo w0 w1 L S K f (aq b f) → Calls prog 68 #[.pointer (some ⟨K.D, 0, none⟩), .int .i64 (4 + 3 * (s : Int))] w1 fun e w' => e = .returned (.int .i64 l) ∧ bW w1 w') := fun w1 hK => by
  have := cF hK HO.ok (4 + 3 * (s : Int)) (4 + 3 * s) (by push_cast; rfl) (by rw [jQ]; omega)
  rw [xW] at this
  exact this
 have SV5 : Hid (∀ w1 : World, bo w0 w1 L S K f (aq b f) → Calls prog 68 #[.pointer (some ⟨K.D, 0, none⟩), .int .i64 (5 + 3 * (s : Int))] w1 fun e w' => e = .returned (.int .i64 cc) ∧ bW w1 w') := fun w1 hK => by
  have := cF hK HO.ok (5 + 3 * (s : Int)) (5 + 3 * s) (by push_cast; rfl) (by rw [jQ]; omega)
  rw [Ro] at this
  exact this
 by_cases hl : l = 0
 ·have HB : Hid (dr b f (s : Int) = (aq b f, [], 12)) := by unfold dr; rw [Hid, iN cO, iN (by simpa using Co), iP (.inl (by rw [Int.toNat_natCast, jA, hl]; rfl))]
  subst hl
  clear h ho cO h9 jF Co iG jA yQ
  go_enter func20, ntmps20
  go_wp2_with (fail)
  refine HR.mono ?_
  rintro e w1 ⟨rfl, hK, hX⟩
  have HK := iD hK
  have HX := iD hX
  clear hK hX
  go_wp2_with (fail)
  refine (HW _).mono ?_
  rintro e w2 ⟨rfl, rfl⟩
  go_wp2_with (fail)
  refine (SV _ HK).mono ?_
  rintro e w3 ⟨rfl, hB⟩
  have jI := iD hB
  clear hB
  go_wp2
  go_ret2
  exact .no HB (by decide) (.mk' ((bZ.dj HX).trans (bZ.ak jI)) (HK.ab jI))
 have Iz : ¬ (l : Int) = 0 := oM
 have Dy : ((l : Int) == 0) = false := by simpa using Iz
 by_cases hud : b.au = true ∧ b.dst = s
 ·have HB : Hid (dr b f (s : Int) = (aq b f, [], 12)) := by unfold dr; rw [Hid, iN cO, iN (by simpa using Co), iP (.inr ⟨hud.1, by rw [hud.2]⟩)]
  obtain ⟨hu, uT⟩ := hud
  clear h ho cO h9 jF Co iG jA yQ
  go_enter func20, ntmps20
  go_wp2_with (fail)
  refine HR.mono ?_
  rintro e w1 ⟨rfl, hK, hX⟩
  have HK := iD hK
  have HX := iD hX
  clear hK hX
  go_wp2_with (fail)
  refine (HW _).mono ?_
  rintro e w2 ⟨rfl, rfl⟩
  go_wp2_with (fail)
  refine (SV _ HK).mono ?_
  rintro e w3 ⟨rfl, hB⟩
  have jI := iD hB
  have c6 : w3.cell? ⟨K.D, 6, none⟩ = some (.bool b.au) := (HK.ab hB).row 6 _ rfl
  have c7 : w3.cell? ⟨K.D, 7, none⟩ = some (.int .i64 b.dst) := (HK.ab hB).row 7 _ rfl
  rw [hu] at c6
  rw [uT] at c7
  clear hB
  go_wp2
  go_ret2
  exact .no HB (by decide) (.mk' ((bZ.dj HX).trans (bZ.ak jI)) (HK.ab jI))
 have vW : b.au = false ∨ (b.au = true ∧ ¬ (b.dst : Int) = (s : Int) ∧ ((b.dst : Int) == (s : Int)) = false) := by
  by_cases hu : b.au = true
  ·refine .inr ⟨hu, ?_, ?_⟩
   ·intro e; exact hud ⟨hu, oM⟩
   have : ¬ (b.dst : Int) = (s : Int) := fun e => hud ⟨hu, oM⟩
   simpa using this
  exact .inl (by simpa using hu)
 obtain ⟨img, gG⟩ := ex (fv f b s l)
 obtain ⟨C, hC⟩ := ex (eS img)
 have hCr : 0 ≤ C ∧ C < 4294967296 := by rw [← hC]; exact l6 img
 have HBI : Hid (dr b f (s : Int) = if C ≠ (cc : Int) then (aq b f, [], 19) else (aq b f, img, 0)) := by
  unfold dr
  rw [Hid, iN cO, iN (by simpa using Co), iN (by
   rintro (e | e)
   ·rw [Int.toNat_natCast, jA] at e; exact Iz e
   exact hud ⟨e.1, oM⟩), Int.toNat_natCast, jA, Int.toNat_natCast, gG, hC, yQ]
 have pz : Hid (∀ w3 : World, bo w0 w3 L S K f (aq b f) → ∀ X : Nat → Prop, (∀ g, X g → g < w3.heap.size) → Calls prog 76 #[.pointer (some ⟨K.D, 0, none⟩), .int .i64 s, .int .i64 l] w3 fun e w' => ∃ A c, e = .returned (.tuple #[.slice A l c, .nilIface]) ∧ l ≤ c ∧ c ≤ maxLen ∧ cn X w' A (ag .u8 img) ∧ img.length = l ∧ bW w3 w') := fun w3 hK X hX => by
  have := yY hK HO HU.2 s l gF oM dP X hX
  rw [show fv f (aq b f) s l = img from gG] at this
  exact this
 have Dt : Hid (Bytes img) := by rw [← gG]; unfold fv; exact gy (ei h.st.fl.ok.wP _) _
 have Yq := iD hC
 have hl8 : l ≤ 8192 := Nat.le_trans dP (by rw [ho.bk]; exact ef h.st.fl.ok ho.k8)
 have q3 : IntKind.i64.wrap C = C := IntWalk.i64_in _ oM
 obtain ⟨hC0, jf⟩ := hCr
 clear h ho cO h9 jF Co iG jA yQ gG hC hud
 have hN : (fun g => g < w.heap.size) = (fun g => g < w.heap.size) := rfl
 by_cases kX : C = (cc : Int)
 all_goals
  rcases vW with hu | ⟨hu, xz, qp⟩
  all_goals
   first
    | (have HB : Hid (dr b f (s : Int) = (aq b f, img, 0)) := by rw [Hid, HBI, iN (by simpa using kX)])
    | (have HB : Hid (dr b f (s : Int) = (aq b f, [], 19)) := by rw [Hid, HBI, iP kX]
       have aaA : (C == (cc : Int)) = false := by simpa using kX)
   go_enter func20, ntmps20
   go_wp2_with (fail)
   refine HR.mono ?_
   rintro e w1 ⟨rfl, hK, hX⟩
   have HK := iD hK
   have HX := iD hX
   clear hK hX
   go_wp2_with (fail)
   refine (HW _).mono ?_
   rintro e w2 ⟨rfl, rfl⟩
   go_wp2_with (fail)
   refine (SV _ HK).mono ?_
   rintro e w3 ⟨rfl, hB⟩
   have pB := iD (HK.ab hB)
   have G7 : Hid (bZ w w3 L S K L S K) := (bZ.dj HX).trans (bZ.ak hB)
   have c6 : w3.cell? ⟨K.D, 6, none⟩ = some (.bool b.au) := pB.row 6 _ rfl
   have c7 : w3.cell? ⟨K.D, 7, none⟩ = some (.int .i64 b.dst) := pB.row 7 _ rfl
   rw [hu] at c6
   have HSX : Hid (w.heap.size ≤ w3.heap.size) := Nat.le_trans HX.size hB.size
   clear hB
   go_wp2_with (fail)
   refine (pz _ pB (fun g => g < w3.heap.size) (fun g hg => hg)).mono ?_
   rintro e w4 ⟨A4, c4, rfl, mv, rU, hr, ib, hB⟩
   have uX := iD (pB.ab hB)
   have JF : Hid (bZ w w4 L S K L S K) := G7.trans (bZ.ak hB)
   have Rs := iD hr
   have HL4 := iD ib
   have Yr : Hid (l ≤ c4 ∧ c4 ≤ maxLen) := ⟨mv, rU⟩
   clear hB hr ib mv rU c6 c7
   go_wp2_with (fail)
   refine (nZ A4 l c4 img w4 Rs.rd HL4 Dt oM).mono ?_
   rintro e w5 ⟨rfl, q, rfl⟩
   rw [Yq]
   have Bn : Hid (bW w4 (w4.drewN q)) := Below.drewN (Below.refl w4.heap.size w4) q
   have pA := iD (uX.ab Bn)
   have JE : Hid (bZ w (w4.drewN q) L S K L S K) := JF.trans (bZ.ak Bn)
   have UY := iD (Rs.ao (ah.ak Bn))
   generalize w4.drewN q = W5 at pA JE UY ⊢
   clear Bn
   go_wp2_with (fail)
   refine (SV5 _ pA).mono ?_
   rintro e w6 ⟨rfl, hB⟩
   have oz := iD (pA.ab hB)
   have M6 : Hid (bZ w w6 L S K L S K) := JE.trans (bZ.ak hB)
   have TI := iD (UY.ao (ah.ak hB))
   clear hB
   go_wp2
   go_ret2
   first
    | exact .no HB (by decide) (.mk' M6 oz)
    | (rw [HB]; exact ⟨A4, l, c4, rfl, HL4, Yr.1, Yr.2, fun X hX => TI.dS (fun g _ hg => Nat.lt_of_lt_of_le (hX g hg) HSX), .mk' M6 oz⟩)
end
end Go.Proofs.YtjdknddnanopaaaGreat
