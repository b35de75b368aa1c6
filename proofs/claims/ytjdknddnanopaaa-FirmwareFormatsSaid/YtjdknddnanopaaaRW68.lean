
/-
  The reference of layer 51: Open.
-/
import Derived.Test.YtjdknddnanopaaaRW66
import Derived.Test.YtjdknddnanopaaaRW19
import Derived.Test.YtjdknddnanopaaaPlainV
import Derived.Deep.DeepCutAuto
import Derived.Deep.CutBlock
import Derived.Deep.RegionHeld
import Derived.Laws.ResultCell
namespace Go.Proofs.Ytjdknddnanopaaa
open Go.RowKit
set_option linter.unusedVariables false
set_option linter.unusedSimpArgs false

def zeroS : Value := .agg #[.int .i64 0, .int .i64 0, .slice none 0 0, .slice none 0 0, .slice none 0 0, .int .i64 0, .int .i64 0, .int .i64 0, .slice none 0 0, .slice none 0 0, .int .i64 0, .int .i64 0, .int .i64 0, .int .i64 0, .bool false]

set_option maxRecDepth 100000 in
set_option maxHeartbeats 4000000 in
/-- What is refused ahead of the specification's limits. -/
theorem open_r0 {X : Nat → Prop} {w : World} {x : Rc} {g : Fl} (h : RAt X w x g) (fi bl : Int) (A : Option Addr) (n c : Nat) (hn : n ≤ maxLen) (hbl : bl < 9223372036854775808) (k : Int)
    (hd : (g.down = true ∧ k = 20) ∨ (g.down = false ∧ ((bl < 2 ∧ k = 3) ∨ (¬ bl < 2 ∧ 16 < bl ∧ k = 3) ∨ (¬ bl < 2 ∧ ¬ 16 < bl ∧ ((fi < 0 ∧ k = 10) ∨ (¬ fi < 0 ∧ (g.wear.length : Int) - bl < fi ∧ k = 10) ∨ (¬ fi < 0 ∧ ¬ (g.wear.length : Int) - bl < fi ∧ ((n < 1 ∧ k = 3) ∨ (¬ n < 1 ∧ 48 < n ∧ k = 3)))))))) :
    Calls Try.prog 59 #[x.v g, .int .i64 fi, .int .i64 bl, .slice A n c] w fun e w' => e = .returned (.tuple #[zeroS, .int .i64 k]) ∧ Below w.heap.size w w' := by
  have hwl := h.ok.b2
  obtain ⟨B, cc, D, d, P, r⟩ := x
  show Calls Try.prog 59 #[.agg #[.slice B g.img.length cc, .int .i64 g.pg, .slice D g.wear.length d, .bool g.down, .int .i64 g.fuse, .slice P g.picks.length r], _, _, _] w _
  clear h
  unfold maxLen at hn
  generalize g.wear.length = wl at *
  have fin : ∀ k : Int, k = k := fun _ => rfl
  rcases hd with ⟨hd, rfl⟩ | ⟨hd, ⟨h1, rfl⟩ | ⟨h1, h2, rfl⟩ | ⟨h1, h2, ⟨h3, rfl⟩ | ⟨h3, h4, rfl⟩ | ⟨h3, h4, ⟨h5, rfl⟩ | ⟨h5, h6, rfl⟩⟩⟩⟩
  all_goals
    rw [hd]
    clear fin
    go_enter Try.func59, Try.ntmps59
    go_wp2
    (try simp only [Exit.inBlock, Exit.then])
    refine bodyPost_ret (v := .tuple #[zeroS, .int .i64 _]) ?_ rfl ⟨rfl, ?_⟩
    · rw [results_cell_tmp rfl]
      unfold zeroS
      go_simp
    · exact below_two _ _ _

def rL (fi bl : Int) (Q : Option Addr) (n cq : Nat) (Qs : Option Addr) (N cs : Nat) (seq blk slot : Int) : List Value :=
  [.int .i64 fi, .int .i64 bl, .slice Q n cq, .slice none 0 0, .slice Qs N cs, .int .i64 seq, .int .i64 blk, .int .i64 slot, .slice none 0 0, .slice none 0 0, .int .i64 0, .int .i64 (-1), .int .i64 0, .int .i64 0, .bool false]
def zL : List Value := [.int .i64 0, .int .i64 0, .slice none 0 0, .slice none 0 0, .slice none 0 0, .int .i64 0, .int .i64 0, .int .i64 0, .slice none 0 0, .slice none 0 0, .int .i64 0, .int .i64 0, .int .i64 0, .int .i64 0, .bool false]
/-- A reference store that is being made. -/
structure RsI (w wr : World) (D4 D8 D : Nat) (x : Rc) (g : Fl) (fi bl : Int) (Q : Option Addr) (n cq : Nat) (sp : List Par) (Qs : Option Addr) (cs : Nat) (raw : List Int) (seq blk slot : Int) : Prop where
  below : Below w.heap.size w wr
  o4 : wr.ownsRow w.heap.size 37 6 (.slice (some ⟨D4, 0, none⟩) 1 1) 1 (x.l g)
  o8 : wr.ownsRow w.heap.size 46 15 (.slice (some ⟨D8, 0, none⟩) 1 1) 1 zL
  o : wr.ownsRow w.heap.size 46 15 (.slice (some ⟨D, 0, none⟩) 1 1) 1 (rL fi bl Q n cq Qs raw.length cs seq blk slot)
  sp : wr.ownsRow w.heap.size 141 3 (.slice Q n cq) n (pcells sp)
  sv : wr.ownsRow w.heap.size 3 1 (.slice Qs raw.length cs) raw.length (icells raw)
  ne : D8 ≠ D
section
variable {w wr : World} {D4 D8 D n cq cs : Nat} {x : Rc} {g : Fl} {fi bl seq blk slot : Int} {Q Qs : Option Addr} {sp : List Par} {raw : List Int}
theorem RsI.later (h : RsI w wr D4 D8 D x g fi bl Q n cq sp Qs cs raw seq blk slot) {w' : World} (hb : Below wr.heap.size wr w') : RsI w w' D4 D8 D x g fi bl Q n cq sp Qs cs raw seq blk slot :=
  ⟨h.below.trans (hb.mono h.below.size), own_below h.o4 hb, own_below h.o8 hb, own_below h.o hb, own_below h.sp hb, own_below h.sv hb, h.ne⟩
theorem RsI.row (h : RsI w wr D4 D8 D x g fi bl Q n cq sp Qs cs raw seq blk slot) (j : Nat) (u : Value) (hj : (rL fi bl Q n cq Qs raw.length cs seq blk slot)[j]? = some u) : wr.cell? ⟨D, j, none⟩ = some u := by
  have hlt : j < 15 := by
    have := (List.getElem?_eq_some_iff.1 hj).1
    simpa [rL] using this
  rw [h.o.cellAt j (by omega)]
  exact hj
theorem RsI.fz (h : RsI w wr D4 D8 D x g fi bl Q n cq sp Qs cs raw seq blk slot) (j : Nat) : wr.frozen? ⟨D, j, none⟩ = false := h.o.frozenAt _
theorem RsI.frow (h : RsI w wr D4 D8 D x g fi bl Q n cq sp Qs cs raw seq blk slot) (j : Nat) (u : Value) (hj : (x.l g)[j]? = some u) : wr.cell? ⟨D4, j, none⟩ = some u := by
  have hlt : j < 6 := by
    have := (List.getElem?_eq_some_iff.1 hj).1
    simpa [Rc.l] using this
  rw [h.o4.cellAt j (by omega)]
  exact hj
theorem RsI.zrow (h : RsI w wr D4 D8 D x g fi bl Q n cq sp Qs cs raw seq blk slot) (j : Nat) (u : Value) (hj : zL[j]? = some u) : wr.cell? ⟨D8, j, none⟩ = some u := by
  have hlt : j < 15 := by
    have := (List.getElem?_eq_some_iff.1 hj).1
    simpa [zL] using this
  rw [h.o8.cellAt j (by omega)]
  exact hj
/-- A value is stored in one field of the store. -/
theorem RsI.cell (h : RsI w wr D4 D8 D x g fi bl Q n cq sp Qs cs raw seq blk slot) (j : Nat) (u : Value) {Qs' : Option Addr} {cs' : Nat} {raw' : List Int} {seq' blk' slot' : Int}
    (hc : (rL fi bl Q n cq Qs raw.length cs seq blk slot).set j u = rL fi bl Q n cq Qs' raw'.length cs' seq' blk' slot')
    (hsv : wr.ownsRow w.heap.size 3 1 (.slice Qs' raw'.length cs') raw'.length (icells raw')) : RsI w (wr.setCell ⟨D, j, none⟩ u) D4 D8 D x g fi bl Q n cq sp Qs' cs' raw' seq' blk' slot' := by
  have h1 := h.o.stored j u
  have hD := (h.o.lt _ rfl).1
  refine ⟨h.below.setCell (p := ⟨D, j, none⟩) hD _, kept_of h.o4 h1.2 (fun g hg e => own_ne_own h.o h.o4 (by decide) g e hg), ?_, by rw [← hc]; exact h1.1, kept_of h.sp h1.2 (fun g hg e => own_ne_own h.o h.sp (by decide) g e hg), kept_of hsv h1.2 (fun g hg e => own_ne_own h.o hsv (by decide) g e hg), h.ne⟩
  refine kept_of h.o8 h1.2 (fun g' hg e => ?_)
  have e1 : D8 = g' := by simpa [Value.ownBlock] using hg
  have e2 : D = g' := by simpa using e
  exact h.ne (e1.trans e2.symm)
end
end Go.Proofs.Ytjdknddnanopaaa
