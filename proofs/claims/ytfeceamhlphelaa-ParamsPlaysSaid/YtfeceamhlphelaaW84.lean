/-
  ParamsPlays: a store and a flash beside the reference's, which lie in boxes of the law.
-/
import Derived.Test.YtfeceamhlphelaaW83
import Derived.Test.YtfeceamhlphelaaW74
import Derived.Test.YtfeceamhlphelaaW56
namespace Go.Proofs.Ytfeceamhlphelaa
open Go.RowKit
set_option linter.unusedVariables false
set_option linter.unusedSimpArgs false

section
variable {w0 w w' : World} {L : Lc} {S S' : Sc} {f f' : Fl} {s s' : St}
theorem OnlyX.up (h : OnlyX (Own5 L S) w w') : OnlyX (Own L S) w w' := ⟨h.size, fun k hk hn => h.block k hk (fun h5 => hn (.inl h5))⟩
/-- Other blocks are set apart. -/
theorem StAt.tag (h : StAt w0 w L S f s) (hb : Below w.heap.size w w') (E : Nat → Prop) (hE : ∀ b, E b → b < w'.heap.size) (hN : ∀ b, b < w.heap.size → E b → L.E b) : StAt w0 w' { L with E := E } S f s := by
  have h' := h.later hb
  have hY : ∀ b, b < w.heap.size → Own { L with E := E } S b → Own L S b := fun b hlt hy => by
    rcases hy with h5 | he
    · exact .inl h5
    · exact .inr (hN b hlt he)
  have sl : SlR (Own { L with E := E } S) w' S s := (h.sl.newX hY).onlyX (OnlyX.of_below (X := Own { L with E := E } S) hb)
  have pk : RdX (Own { L with E := E } S) w' L.Ap (kcells .u8 f.picks) := (h.pk.newX hY).onlyX (OnlyX.of_below (X := Own { L with E := E } S) hb)
  exact ⟨h'.fl.tag E hE, h'.dd, h'.dl, h'.d1, h'.d2, h'.d3, h'.dg, h'.g1, h'.g2, h'.g3, h'.row, h'.fz, h'.sg, sl, pk⟩
/-- A block that is set apart is stored anew. -/
theorem StAt.far (h : StAt w0 w L S f s) {g : Nat} (hg : L.E g) (hn : ¬ Own5 L S g) (h0 : w0.heap.size ≤ g) (cs : Array Value) : StAt w0 (w.setRow g cs) L S f s := by
  have ho : OnlyX (fun b => b = g) w (w.setRow g cs) := OnlyX.row w g cs rfl
  have hs : ∀ b, (fun b => b = g) b → Own L S b := by
    rintro b rfl
    exact .inr hg
  have h1 : ¬ L.d = g := fun e => hn (e ▸ (Own5.fl L S).1)
  have h2 : ¬ L.gi = g := fun e => hn (e ▸ (Own5.fl L S).2.1)
  have h3 : ¬ L.gw = g := fun e => hn (e ▸ (Own5.fl L S).2.2)
  have h4 : ¬ S.D = g := fun e => hn (e ▸ Own5.d L S)
  have h5 : ¬ S.G = g := fun e => hn (e ▸ Own5.g L S)
  have hfl : FlAt w0 (w.setRow g cs) L f :=
    h.fl.aside (below_setRow h.fl.below h0 _) ho h1 h2 h3 (fun j => frozen_of_block (ho.block L.d h.fl.ld h1)) (own_of_block h.fl.oi (ho.block L.gi h.fl.bi.2 h2)) (own_of_block h.fl.ow (ho.block L.gw h.fl.bw.2 h3)) ((h.pk.onlyX ho hs).apart (Own.fl L S))
  exact ⟨hfl, h.dd, by rw [size_setRow]; exact h.dl, h.d1, h.d2, h.d3, h.dg, h.g1, h.g2, h.g3, fun j u hu => (cell_of_block (ho.block S.D h.dl h4)).trans (h.row j u hu), fun j => (frozen_of_block (ho.block S.D h.dl h4)).trans (h.fz j), own_of_block h.sg (ho.block S.G h.gl.2 h5), h.sl.onlyX ho hs, h.pk.onlyX ho hs⟩
end
theorem RAt.newX {X Y : Nat → Prop} {w : World} {x : Rc} {g : Fl} (h : RAt X w x g) (hY : ∀ b, b < w.heap.size → Y b → X b) : RAt Y w x g :=
  ⟨h.ok, h.a.newX hY, h.a1, h.a2, h.b.newX hY, h.b1, h.b2, h.p.newX hY, h.p1, h.p2⟩

/-- A store, and the boxes of the reference's flash and store. -/
structure PlW (w0 w : World) (L : Lc) (B9 B12 : Nat) (S : Sc) (f : Fl) (s : St) (c9 c12 : Array Value) (q : Qv) (s1 : St) (p : Nat) (y : Rc) (g : Fl) : Prop where
  st : StAt w0 w L S f s
  h9 : w.heap[B9]? = some (.cells c9 60 (0, 0))
  h12 : w.heap[B12]? = some (.cells c12 105 (0, 0))
  rv : RvA (Own L S) w q s1 p
  rf : RAt (Own L S) w y g
  nd9 : ¬ Own5 L S B9
  nd12 : ¬ Own5 L S B12
  e9 : L.E B9
  e12 : L.E B12
  b9 : w0.heap.size ≤ B9
  b12 : w0.heap.size ≤ B12
  ne : B9 ≠ B12
section
variable {w0 w w' : World} {L : Lc} {B9 B12 : Nat} {S S' : Sc} {f f' : Fl} {s s' : St} {c9 c12 : Array Value} {q q' : Qv} {s1 s2 : St} {p p' : Nat} {y y' : Rc} {g g' : Fl}
theorem PlW.lt (h : PlW w0 w L B9 B12 S f s c9 c12 q s1 p y g) : B9 < w.heap.size ∧ B12 < w.heap.size := ⟨(Array.getElem?_eq_some_iff.1 h.h9).1, (Array.getElem?_eq_some_iff.1 h.h12).1⟩
theorem PlW.later (h : PlW w0 w L B9 B12 S f s c9 c12 q s1 p y g) (hb : Below w.heap.size w w') : PlW w0 w' L B9 B12 S f s c9 c12 q s1 p y g :=
  ⟨h.st.later hb, (hb.block _ h.lt.1).trans h.h9, (hb.block _ h.lt.2).trans h.h12, h.rv.below hb, h.rf.below hb, h.nd9, h.nd12, h.e9, h.e12, h.b9, h.b12, h.ne⟩
theorem PlW.prog (h : PlW w0 w L B9 B12 S f s c9 c12 q s1 p y g) (hs : StAt w0 w' L S' f' s') (hd : S'.D = S.D) (hg : S'.G = S.G) (ho : OnlyX (Own5 L S) w w') : PlW w0 w' L B9 B12 S' f' s' c9 c12 q s1 p y g := by
  have e := Own.same (L := L) hd hg
  have e5 := Own5.same (L := L) hd hg
  exact ⟨hs, (ho.block _ h.lt.1 h.nd9).trans h.h9, (ho.block _ h.lt.2 h.nd12).trans h.h12, by rw [e]; exact h.rv.onlyX ho.up, by rw [e]; exact h.rf.onlyX ho.up, by rw [e5]; exact h.nd9, by rw [e5]; exact h.nd12, h.e9, h.e12, h.b9, h.b12, h.ne⟩
theorem PlW.prog2 (h : PlW w0 w L B9 B12 S f s c9 c12 q s1 p y g) {Ap : Option Addr} {cp : Nat} (hs : StAt w0 w' { L with Ap := Ap, cp := cp } S f' s') (ho : OnlyX (Own5 L S) w w') : PlW w0 w' { L with Ap := Ap, cp := cp } B9 B12 S f' s' c9 c12 q s1 p y g :=
  ⟨hs, (ho.block _ h.lt.1 h.nd9).trans h.h9, (ho.block _ h.lt.2 h.nd12).trans h.h12, h.rv.onlyX ho.up, h.rf.onlyX ho.up, h.nd9, h.nd12, h.e9, h.e12, h.b9, h.b12, h.ne⟩
theorem PlW.rv' (h : PlW w0 w L B9 B12 S f s c9 c12 q s1 p y g) (hr : RvA (Own L S) w q' s2 p') : PlW w0 w L B9 B12 S f s c9 c12 q' s2 p' y g := ⟨h.st, h.h9, h.h12, hr, h.rf, h.nd9, h.nd12, h.e9, h.e12, h.b9, h.b12, h.ne⟩
theorem PlW.rf' (h : PlW w0 w L B9 B12 S f s c9 c12 q s1 p y g) (hr : RAt (Own L S) w y' g') : PlW w0 w L B9 B12 S f s c9 c12 q s1 p y' g' := ⟨h.st, h.h9, h.h12, h.rv, hr, h.nd9, h.nd12, h.e9, h.e12, h.b9, h.b12, h.ne⟩
theorem PlW.put12 (h : PlW w0 w L B9 B12 S f s c9 c12 q s1 p y g) (cs : Array Value) : PlW w0 (w.setRow B12 cs) L B9 B12 S f s c9 cs q s1 p y g :=
  ⟨h.st.far h.e12 h.nd12 h.b12 cs, (setRow_other w B12 B9 cs h.ne).trans h.h9, setRow_heap _ _ _ _ _ _ h.h12, h.rv.onlyX (OnlyX.row w B12 cs (.inr h.e12)), h.rf.onlyX (OnlyX.row w B12 cs (.inr h.e12)), h.nd9, h.nd12, h.e9, h.e12, h.b9, h.b12, h.ne⟩
theorem PlW.put9 (h : PlW w0 w L B9 B12 S f s c9 c12 q s1 p y g) (cs : Array Value) : PlW w0 (w.setRow B9 cs) L B9 B12 S f s cs c12 q s1 p y g :=
  ⟨h.st.far h.e9 h.nd9 h.b9 cs, setRow_heap _ _ _ _ _ _ h.h9, (setRow_other w B9 B12 cs (fun e => h.ne e.symm)).trans h.h12, h.rv.onlyX (OnlyX.row w B9 cs (.inr h.e9)), h.rf.onlyX (OnlyX.row w B9 cs (.inr h.e9)), h.nd9, h.nd12, h.e9, h.e12, h.b9, h.b12, h.ne⟩
theorem PlW.cast (h : PlW w0 w L B9 B12 S f s c9 c12 q s1 p y g) (e : p = p') : PlW w0 w L B9 B12 S f s c9 c12 q s1 p' y g := e ▸ h
/-- Another store is opened on the flash. -/
theorem PlW.again (h : PlW w0 w L B9 B12 S f s c9 c12 q s1 p y g) (hs : StAt w0 w' L S' f' s') (hb : Below w.heap.size w w') (hd : w.heap.size ≤ S'.D) (hg : w.heap.size ≤ S'.G) : PlW w0 w' L B9 B12 S' f' s' c9 c12 q s1 p y g := by
  have hY := own_new (L := L) (S := S) (S' := S') hd hg
  have h' := h.later hb
  refine ⟨hs, h'.h9, h'.h12, (h.rv.newX hY).below hb, (h.rf.newX hY).below hb, fun h5 => ?_, fun h5 => ?_, h.e9, h.e12, h.b9, h.b12, h.ne⟩
  · rcases h5 with e | e | e | e | e
    · exact h.nd9 (.inl e)
    · exact h.nd9 (.inr (.inl e))
    · exact h.nd9 (.inr (.inr (.inl e)))
    · have := h.lt.1
      omega
    · have := h.lt.1
      omega
  · rcases h5 with e | e | e | e | e
    · exact h.nd12 (.inl e)
    · exact h.nd12 (.inr (.inl e))
    · exact h.nd12 (.inr (.inr (.inl e)))
    · have := h.lt.2
      omega
    · have := h.lt.2
      omega
end
/-- The store, the flash, and the reference's, between two events. -/
structure PlI (w0 w : World) (L : Lc) (B9 B12 : Nat) (sp : List Par) (F C : Nat) (k : Int) (S : Sc) (f : Fl) (s : St) (q : Qv) (y : Rc) (g : Fl) : Prop where
  w : PlW w0 w L B9 B12 S f s (y.l g).toArray (q.l s).toArray q s g.pg y g
  sq : SurQ f s k
  sim : Sim f g
  spec : s.spec = sp
  first : s.first = F
  blocks : s.blocks = C
def PlE (w0 w : World) (L0 : Lc) (B9 B12 : Nat) (sp : List Par) (F C : Nat) (k : Int) (p : Value) : Prop :=
  ∃ Ap cp S f s q y g, p = .pointer (some ⟨S.D, 0, none⟩) ∧ PlI w0 w { L0 with Ap := Ap, cp := cp } B9 B12 sp F C k S f s q y g
theorem PlI.later {w0 w w' : World} {L : Lc} {B9 B12 : Nat} {sp : List Par} {F C : Nat} {k : Int} {S : Sc} {f : Fl} {s : St} {q : Qv} {y : Rc} {g : Fl} (h : PlI w0 w L B9 B12 sp F C k S f s q y g) (hb : Below w.heap.size w w') : PlI w0 w' L B9 B12 sp F C k S f s q y g :=
  ⟨h.w.later hb, h.sq, h.sim, h.spec, h.first, h.blocks⟩
theorem PlI.okg {w0 w : World} {L : Lc} {B9 B12 : Nat} {sp : List Par} {F C : Nat} {k : Int} {S : Sc} {f : Fl} {s : St} {q : Qv} {y : Rc} {g : Fl} (h : PlI w0 w L B9 B12 sp F C k S f s q y g) : StOk g s := h.sq.ok.shape ⟨h.sim.pg, by rw [h.sim.wear]⟩
/-- The error's number. -/
theorem num_all (c : Int) (w : World) : Calls Try.prog 44 #[errV c] w fun e w' => e = .returned (.int .i64 c) ∧ w = w' := by
  by_cases h : c = 0
  · subst h
    exact num_nil w
  · rw [errV_ne h]
    exact num_err c w
theorem enter65 (args : Array Value) (w : World) : (callFunc 65 args).run Try.prog w = .ok (.enter 65 args) w := by
  go_simp
theorem enter67 (args : Array Value) (w : World) : (callFunc 67 args).run Try.prog w = .ok (.enter 67 args) w := by
  go_simp
theorem enter70 (args : Array Value) (w : World) : (callFunc 70 args).run Try.prog w = .ok (.enter 70 args) w := by
  go_simp
theorem enter71 (args : Array Value) (w : World) : (callFunc 71 args).run Try.prog w = .ok (.enter 71 args) w := by
  go_simp
theorem enter72 (args : Array Value) (w : World) : (callFunc 72 args).run Try.prog w = .ok (.enter 72 args) w := by
  go_simp
theorem neqq_none (w : World) : (binOp .neq 88 (.pointer none) (.pointer none)).run Try.prog w = .ok (.bool false) w := by kernel_rfl
theorem four.onlyX {X : Nat → Prop} {w w' : World} {B : Nat} {a b c d : Value} (h : four w B a b c d) (ho : OnlyX X w w') (hn : ¬ X B) : four w' B a b c d := by
  have hb := ho.block B h.lt hn
  exact ⟨(cell_of_block hb).trans h.1, (cell_of_block hb).trans h.2.1, (cell_of_block hb).trans h.2.2.1, (cell_of_block hb).trans h.2.2.2.1, fun j => (frozen_of_block hb).trans (h.2.2.2.2 j)⟩
theorem startF_up {f : Fl} (h : f.down = false) : startF f = f := by unfold startF; rw [if_neg (by rw [h]; decide)]
theorem RAt.startR {X : Nat → Prop} {w : World} {x : Rc} {g : Fl} (h : RAt X w x g) : RAt X w x (startR g) := by
  unfold Ytfeceamhlphelaa.startR
  split
  · exact h.put false (-1) (by decide) (by decide)
  · exact h
theorem runS_pg (n : Nat) (s : St) (f : Fl) : (runS n s f).2.1.pg = f.pg := by
  induction n generalizing s f with
  | zero => rfl
  | succ n ih =>
    rw [runS_succ]
    split
    · exact step_pg s f
    · rw [ih]
      exact step_pg s f
theorem commit_pg (s : St) (f : Fl) : (commitS s f).2.1.pg = f.pg := by
  unfold commitS
  split
  · rfl
  · exact runS_pg 10 _ f
theorem openStep_bu (f : Fl) (s : St) (b j : Nat) : (openStep f s b j).busy = s.busy := by
  unfold openStep
  simp only
  split <;> rfl
theorem openRow_bu (f : Fl) (b : Nat) (s : St) (n : Nat) : (openRow f b s n).busy = s.busy := by
  induction n with
  | zero => rfl
  | succ n ih => rw [openRow_succ, openStep_bu, ih]
theorem openAll_bu (f : Fl) (n : Nat) (s : St) (m : Nat) : (openAll f n s m).busy = s.busy := by
  induction m with
  | zero => rfl
  | succ m ih => rw [openAll_succ, openRow_bu, ih]
theorem openF_bu (f : Fl) (fi bl : Nat) (sp : List Par) : (openF f fi bl sp).busy = false := by
  unfold openF
  simp only
  rw [openAll_bu]
  rfl
theorem SurQ.gen {f : Fl} {s : St} {n m : Int} (h : SurQ f s n) (hm : n ≤ m) : SurQ f s m := h.more hm
end Go.Proofs.Ytfeceamhlphelaa
