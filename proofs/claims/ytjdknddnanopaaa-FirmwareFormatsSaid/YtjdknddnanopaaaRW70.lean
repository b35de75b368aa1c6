
/-
  The reference of layer 51: Open, all of it.
-/
import Derived.Test.YtjdknddnanopaaaRW71
namespace Go.Proofs.Ytjdknddnanopaaa
open Go.RowKit
set_option linter.unusedVariables false
set_option linter.unusedSimpArgs false

theorem RsI.other {w wr : World} {D4 D8 D n cq cs : Nat} {x : Rc} {g : Fl} {fi bl seq blk slot : Int} {Q Qs : Option Addr} {sp : List Par} {raw : List Int} (h : RsI w wr D4 D8 D x g fi bl Q n cq sp Qs cs raw seq blk slot) (j : Nat) (u : Value) {v : Value} {k : Nat} {xs : List Value}
    (ho : wr.ownsRow w.heap.size 3 1 v k xs) : (wr.setCell ⟨D, j, none⟩ u).ownsRow w.heap.size 3 1 v k xs := kept_of ho (h.o.stored j u).2 (fun g hg e => own_ne_own h.o ho (by decide) g e hg)
theorem pagesF_len9 (f : Fl) (a n : Nat) : (pagesF f a n).length = n := by unfold pagesF; simp
/-- A reference store that was opened. -/
def RsO (X : Nat → Prop) (w : World) (v : Value) (s : St) : Prop :=
  ∃ (Q1 : Option Addr) (c1 : Nat) (Q2 : Option Addr) (c2 : Nat) (Q3 : Option Addr) (c3 : Nat), v = .agg #[.int .i64 s.first, .int .i64 s.blocks, .slice Q1 s.spec.length c1, .slice Q2 s.staged.length c2, .slice Q3 s.saved.length c3, .int .i64 s.seq, .int .i64 s.block, .int .i64 s.slot, .slice none 0 0, .slice none 0 0, .int .i64 0, .int .i64 (-1), .int .i64 0, .int .i64 0, .bool false] ∧
    RdX X w Q1 (pcells s.spec) ∧ s.spec.length ≤ c1 ∧ c1 ≤ maxLen ∧ RdX X w Q2 (icells s.staged) ∧ s.staged.length ≤ c2 ∧ c2 ≤ maxLen ∧ RdX X w Q3 (icells s.saved) ∧ s.saved.length ≤ c3 ∧ c3 ≤ maxLen
/-- What the reference's Open leaves. -/
def OpS (X : Nat → Prop) (w : World) (g : Fl) (fi bl : Nat) (sp : List Par) (e : Ending) (w' : World) : Prop :=
  ∃ v, e = .returned (.tuple #[v, .int .i64 (openE g fi bl sp)]) ∧ Below w.heap.size w w' ∧ (openE g fi bl sp = 0 → RsO X w' v (openF g fi bl sp)) ∧ (openE g fi bl sp ≠ 0 → v = zeroS)
theorem OpS.no {X : Nat → Prop} {w w' : World} {g : Fl} {fi bl : Nat} {sp : List Par} {k : Int} (he : openE g fi bl sp = k) (hk : k ≠ 0) (hb : Below w.heap.size w w') : OpS X w g fi bl sp (.returned (.tuple #[zeroS, .int .i64 k])) w' :=
  ⟨zeroS, by rw [he], hb, fun h => absurd (he.symm.trans h) hk, fun _ => rfl⟩
theorem openE_mid {g : Fl} {fi bl : Nat} {sp : List Par} (hd : g.down = false) (hb2 : 2 ≤ bl) (hb16 : bl ≤ 16) (hfb : fi + bl ≤ g.wear.length) (hn1 : 1 ≤ sp.length) (hn48 : sp.length ≤ 48) : openE g fi bl sp = if sp.any badP = true then 3 else if g.pg < pgs sp.length then 11 else 0 := by
  unfold openE
  rw [hd, if_neg (by decide), if_neg (by omega), if_neg (by omega), if_neg (by omega)]
  rfl

end Go.Proofs.Ytjdknddnanopaaa
