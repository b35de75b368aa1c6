/-
  Firmware: a bank in memory, beside its store and its flash; a queue of integers.
-/
import Derived.Test.YtjdknddnanopaaaF10
import Derived.Test.YtjdknddnanopaaaW55
namespace Go.Proofs.Ytjdknddnanopaaa
open Go.RowKit
set_option linter.unusedVariables false

/-- v is a queue of these numbers, in a block from B on, whose elements are of type e. -/
def QS (w : World) (e : TypeId) (B : Nat) (v : Value) (q : List Int) : Prop :=
  (v = .slice none 0 0 ∧ q = []) ∨
  ∃ g off cap cur, v = .slice (some ⟨g, off, none⟩) q.length cap ∧ B ≤ g ∧ w.heap[g]? = some (.cells cur e (0, 0)) ∧ q.length ≤ cap ∧ cap ≤ maxLen ∧ off + cap ≤ cur.size ∧
    ∀ j x, q[j]? = some x → cur[off + j]? = some (.int .i64 x)

theorem QS.kept {w w' : World} {e : TypeId} {B : Nat} {v : Value} {q : List Int} (h : QS w e B v q) {row : Option Nat} (hg : w.grownBy w' row) (hne : ∀ g, v.ownBlock = some g → row ≠ some g) : QS w' e B v q := by
  rcases h with h | ⟨g, off, cap, cur, rfl, hB, hh, h1, h2, h3, h4⟩
  · exact .inl h
  · refine .inr ⟨g, off, cap, cur, rfl, hB, ?_, h1, h2, h3, h4⟩
    rw [hg.block g (Array.getElem?_eq_some_iff.1 hh).1 (fun e => hne g rfl e.symm)]
    exact hh

theorem QS.lt {w : World} {e : TypeId} {B : Nat} {v : Value} {q : List Int} (h : QS w e B v q) {g : Nat} (hg : v.ownBlock = some g) : B ≤ g ∧ g < w.heap.size := by
  rcases h with ⟨rfl, _⟩ | ⟨g', off, cap, cur, rfl, hB, hh, _⟩
  · simp [Value.ownBlock] at hg
  · simp [Value.ownBlock] at hg
    subst hg
    exact ⟨hB, (Array.getElem?_eq_some_iff.1 hh).1⟩

theorem QS.nil (w : World) (e : TypeId) (B : Nat) : QS w e B (.slice none 0 0) [] := .inl ⟨rfl, rfl⟩

section
variable {P : Program} (w : World)

end
section
variable {w0 w w' : World} {L : Lc} {S S' : Sc} {f f' : Fl} {s s' : St}
theorem OnlyX.up (h : OnlyX (Own5 L S) w w') : OnlyX (Own L S) w w' := ⟨h.size, fun k hk hn => h.block k hk (fun h5 => hn (.inl h5))⟩
theorem OnlyX.more {X Y : Nat → Prop} (h : OnlyX X w w') (hs : ∀ b, X b → Y b) : OnlyX Y w w' := ⟨h.size, fun k hk hn => h.block k hk (fun h5 => hn (hs k h5))⟩
/-- Other blocks are set apart. -/
theorem StAt.tag (h : StAt w0 w L S f s) (hb : Below w.heap.size w w') (E : Nat → Prop) (hE : ∀ b, E b → b < w'.heap.size) (hN : ∀ b, b < w.heap.size → E b → L.E b) : StAt w0 w' { L with E := E } S f s := by
  have h' := h.later hb
  have hY : ∀ b, b < w.heap.size → Own { L with E := E } S b → Own L S b := fun b hlt hy => by
    rcases hy with h5 | he
    · exact .inl h5
    · exact .inr (hN b hlt he)
  have sl : SlR (Own { L with E := E } S) w' S s := (h.sl.newX hY).onlyX (OnlyX.of_below (X := Own { L with E := E } S) hb)
  have pk : RdX (Own { L with E := E } S) w' L.Ap (kcells .u8 f.picks) := (h.pk.newX hY).onlyX (OnlyX.of_below (X := Own { L with E := E } S) hb)
  exact ⟨h'.fl.tag E hE, h'.dd, h'.dl, h'.d1, h'.d2, h'.d3, h'.dg, h'.g1, h'.g2, h'.g3, h'.row, h'.fz, h'.sg, sl, pk⟩
/-- Blocks that are set apart are stored anew. -/
theorem StAt.aside (h : StAt w0 w L S f s) {Y : Nat → Prop} (hY : ∀ b, Y b → L.E b ∧ ¬ Own5 L S b) (ho : OnlyX Y w w') (hb : Below w0.heap.size w0 w') : StAt w0 w' L S f s := by
  have hs : ∀ b, Y b → Own L S b := fun b hy => .inr (hY b hy).1
  have h1 : ¬ Y L.d := fun e => (hY _ e).2 (Own5.fl L S).1
  have h2 : ¬ Y L.gi := fun e => (hY _ e).2 (Own5.fl L S).2.1
  have h3 : ¬ Y L.gw := fun e => (hY _ e).2 (Own5.fl L S).2.2
  have h4 : ¬ Y S.D := fun e => (hY _ e).2 (Own5.d L S)
  have h5 : ¬ Y S.G := fun e => (hY _ e).2 (Own5.g L S)
  have hfl : FlAt w0 w' L f :=
    h.fl.aside hb ho h1 h2 h3 (fun j => frozen_of_block (ho.block L.d h.fl.ld h1)) (own_of_block h.fl.oi (ho.block L.gi h.fl.bi.2 h2)) (own_of_block h.fl.ow (ho.block L.gw h.fl.bw.2 h3)) ((h.pk.onlyX ho hs).apart (Own.fl L S))
  exact ⟨hfl, h.dd, Nat.lt_of_lt_of_le h.dl ho.size, h.d1, h.d2, h.d3, h.dg, h.g1, h.g2, h.g3, fun j u hu => (cell_of_block (ho.block S.D h.dl h4)).trans (h.row j u hu), fun j => (frozen_of_block (ho.block S.D h.dl h4)).trans (h.fz j), own_of_block h.sg (ho.block S.G h.gl.2 h5), h.sl.onlyX ho hs, h.pk.onlyX ho hs⟩
end

/-- Where a bank lies: its block, its blocks to be erased, its page. -/
structure Kc where
  D : Nat
  v : Value
  A : Option Addr
  n : Nat
  c : Nat
def Kc.cells (K : Kc) (d D : Nat) (b : Bk) : List Value :=
  [.pointer (some ⟨d, 0, none⟩), .int .i64 b.first, .int .i64 b.blocks, .pointer (some ⟨D, 0, none⟩), .bool b.broken, .int .i64 b.slot, .bool b.upload, .int .i64 b.dst, .int .i64 b.version, .int .i64 b.length, .int .i64 b.fed,
   K.v, .int .i64 b.page, .slice K.A K.n K.c, .bool b.record]
/-- The blocks that a bank writes. -/
def OwnK (L : Lc) (S : Sc) (K : Kc) (b : Nat) : Prop := Own5 L S b ∨ b = K.D ∨ K.v.ownBlock = some b
def DatV (X : Nat → Prop) (w : World) (K : Kc) : Option (List Int) → Prop
  | none => K.A = none ∧ K.n = 0 ∧ K.c = 0
  | some d => RdX X w K.A (kcells .u8 d) ∧ d.length = K.n ∧ K.n ≤ K.c ∧ K.c ≤ maxLen
structure BkAt (w0 w : World) (L : Lc) (S : Sc) (K : Kc) (f : Fl) (b : Bk) : Prop where
  st : StAt w0 w L S f b.st
  dd : w0.heap.size ≤ K.D
  nd : ¬ Own5 L S K.D
  ed : L.E K.D
  row : ∀ j u, (K.cells L.d S.D b)[j]? = some u → w.cell? ⟨K.D, j, none⟩ = some u
  fz : ∀ j, w.frozen? ⟨K.D, j, none⟩ = false
  er : QS w 3 w0.heap.size K.v b.erase
  en : ∀ g, K.v.ownBlock = some g → ¬ Own5 L S g ∧ g ≠ K.D ∧ L.E g
  dt : DatV (Own L S) w K b.data
theorem DatV.onlyX {X : Nat → Prop} {w w' : World} {K : Kc} {o : Option (List Int)} (h : DatV X w K o) (k : OnlyX X w w') : DatV X w' K o := by
  cases o with
  | none => exact h
  | some d => exact ⟨h.1.onlyX k, h.2⟩
theorem DatV.newX {X Y : Nat → Prop} {w : World} {K : Kc} {o : Option (List Int)} (h : DatV X w K o) (hY : ∀ b, b < w.heap.size → Y b → X b) : DatV Y w K o := by
  cases o with
  | none => exact h
  | some d => exact ⟨h.1.newX hY, h.2⟩
section
variable {w0 w w' : World} {L : Lc} {S S' : Sc} {K : Kc} {f f' : Fl} {b : Bk} {s' : St}
theorem BkAt.lt (h : BkAt w0 w L S K f b) : K.D < w.heap.size := World.block_lt_of_cell? w _ (h.row 0 _ rfl)
theorem QS.block {w w' : World} {e : TypeId} {B : Nat} {v : Value} {q : List Int} (h : QS w e B v q) (hb : ∀ g, v.ownBlock = some g → w'.heap[g]? = w.heap[g]?) : QS w' e B v q := by
  rcases h with h | ⟨g, off, cap, cur, rfl, hB, hh, h1, h2, h3, h4⟩
  · exact .inl h
  · exact .inr ⟨g, off, cap, cur, rfl, hB, (hb g rfl).trans hh, h1, h2, h3, h4⟩
theorem BkAt.later (h : BkAt w0 w L S K f b) (hb : Below w.heap.size w w') : BkAt w0 w' L S K f b :=
  ⟨h.st.later hb, h.dd, h.nd, h.ed, fun j u hu => (hb.cell (p := ⟨K.D, j, none⟩) h.lt).trans (h.row j u hu), fun j => (hb.frozen (p := ⟨K.D, j, none⟩) h.lt).trans (h.fz j), h.er.block (fun g hg => hb.block g (h.er.lt hg).2), h.en, h.dt.onlyX (OnlyX.of_below hb)⟩
/-- The store, or the flash, has turned. -/
theorem BkAt.prog (h : BkAt w0 w L S K f b) (hs : StAt w0 w' L S' f' s') (hd : S'.D = S.D) (hg : S'.G = S.G) (ho : OnlyX (Own5 L S) w w') : BkAt w0 w' L S' K f' { b with st := s' } := by
  have e := Own.same (L := L) hd hg
  have e5 := Own5.same (L := L) hd hg
  refine ⟨hs, h.dd, by rw [e5]; exact h.nd, h.ed, fun j u hu => ?_, fun j => (frozen_of_block (ho.block _ h.lt h.nd)).trans (h.fz j), h.er.block (fun g hg => ho.block g (h.er.lt hg).2 (h.en g hg).1), fun g hg => by rw [e5]; exact h.en g hg, by rw [e]; exact h.dt.onlyX ho.up⟩
  have hc : K.cells L.d S'.D { b with st := s' } = K.cells L.d S.D b := by unfold Kc.cells; rw [hd]
  rw [hc] at hu
  exact (cell_of_block (ho.block _ h.lt h.nd)).trans (h.row j u hu)
/-- A cell of the bank is stored. -/
theorem BkAt.cell (h : BkAt w0 w L S K f b) (j : Nat) (u : Value) (K' : Kc) (b' : Bk) (e1 : K'.D = K.D) (e2 : b'.st = b.st) (hc : K'.cells L.d S.D b' = (K.cells L.d S.D b).set j u)
    (he : QS w 3 w0.heap.size K'.v b'.erase) (hn : ∀ g, K'.v.ownBlock = some g → ¬ Own5 L S g ∧ g ≠ K.D ∧ L.E g) (hd : DatV (Own L S) w K' b'.data) :
    BkAt w0 (w.setCell ⟨K.D, j, none⟩ u) L S K' f b' ∧ OnlyX (fun g => g = K.D) w (w.setCell ⟨K.D, j, none⟩ u) := by
  have ho : OnlyX (fun g => g = K.D) w (w.setCell ⟨K.D, j, none⟩ u) := .set w ⟨K.D, j, none⟩ u rfl
  have hb : Below w0.heap.size w0 (w.setCell ⟨K.D, j, none⟩ u) := h.st.fl.below.setCell (p := ⟨K.D, j, none⟩) h.dd _
  refine ⟨⟨?_, by rw [e1]; exact h.dd, by rw [e1]; exact h.nd, by rw [e1]; exact h.ed, ?_, ?_, he.block (fun g hg => ho.block g (he.lt hg).2 (hn g hg).2.1), fun g hg => ⟨(hn g hg).1, by rw [e1]; exact (hn g hg).2.1, (hn g hg).2.2⟩, hd.onlyX (ho.more (fun g hg => .inr (by rw [hg]; exact h.ed)))⟩, ho⟩
  · rw [e2]
    exact h.st.aside (Y := fun g => g = K.D) (fun g hg => by subst hg; exact ⟨h.ed, h.nd⟩) ho hb
  · intro i v hv
    rw [e1]
    rw [hc, List.getElem?_set] at hv
    by_cases hij : j = i
    · subst hij
      rw [if_pos rfl] at hv
      split at hv
      · rename_i hlt
        injection hv with hv
        subst hv
        exact World.cell?_setCell_same _ _ _ (h.row j _ (List.getElem?_eq_getElem hlt))
      · cases hv
    · rw [if_neg hij] at hv
      rw [World.cell?_setCell_other _ _ _ _ (by
        intro e
        injection e with _ e
        exact hij e)]
      exact h.row i v hv
  · intro i
    rw [e1, World.frozen?_setCell]
    exact h.fz i
/-- A cell that is neither a slice nor the store. -/
theorem BkAt.cell' (h : BkAt w0 w L S K f b) (j : Nat) (u : Value) (b' : Bk) (e2 : b'.st = b.st) (e3 : b'.erase = b.erase) (e4 : b'.data = b.data) (hc : K.cells L.d S.D b' = (K.cells L.d S.D b).set j u) :
    BkAt w0 (w.setCell ⟨K.D, j, none⟩ u) L S K f b' ∧ OnlyX (fun g => g = K.D) w (w.setCell ⟨K.D, j, none⟩ u) :=
  h.cell j u K b' rfl e2 hc (by rw [e3]; exact h.er) h.en (by rw [e4]; exact h.dt)
end
/-- What a call leaves of the blocks that it does not own. -/
structure Aft (w w' : World) (L : Lc) (S : Sc) (K : Kc) (L' : Lc) (S' : Sc) (K' : Kc) : Prop where
  only : OnlyX (OwnK L S K) w w'
  own : ∀ b, b < w.heap.size → OwnK L' S' K' b → OwnK L S K b
  ein : ∀ b, b < w.heap.size → L'.E b → L.E b
  eup : ∀ b, L.E b → L'.E b
  d : K'.D = K.D
  ld : L'.d = L.d
  gi : L'.gi = L.gi
  gw : L'.gw = L.gw
theorem Aft.refl (w : World) (L : Lc) (S : Sc) (K : Kc) : Aft w w L S K L S K := ⟨OnlyX.refl _ _, fun b _ h => h, fun b _ h => h, fun b h => h, rfl, rfl, rfl, rfl⟩
theorem OnlyX.trans2 {X Y : Nat → Prop} {a b c : World} (h : OnlyX X a b) (k : OnlyX Y b c) (hs : ∀ n, n < a.heap.size → Y n → X n) : OnlyX X a c :=
  ⟨Nat.le_trans h.size k.size, fun n hn hx => (k.block n (Nat.lt_of_lt_of_le hn h.size) (fun hy => hx (hs n hn hy))).trans (h.block n hn hx)⟩
theorem Aft.trans {w w1 w2 : World} {L L1 L2 : Lc} {S S1 S2 : Sc} {K K1 K2 : Kc} (h : Aft w w1 L S K L1 S1 K1) (k : Aft w1 w2 L1 S1 K1 L2 S2 K2) : Aft w w2 L S K L2 S2 K2 :=
  ⟨h.only.trans2 k.only (fun n hn hy => h.own n hn hy), fun n hn hy => h.own n hn (k.own n (Nat.lt_of_lt_of_le hn h.only.size) hy), fun n hn hy => h.ein n hn (k.ein n (Nat.lt_of_lt_of_le hn h.only.size) hy), fun n hn => k.eup n (h.eup n hn), k.d.trans h.d, k.ld.trans h.ld, k.gi.trans h.gi, k.gw.trans h.gw⟩
theorem Aft.of_below {w w' : World} {L : Lc} {S : Sc} {K : Kc} (h : Below w.heap.size w w') : Aft w w' L S K L S K := ⟨OnlyX.of_below h, fun b _ h => h, fun b _ h => h, fun b h => h, rfl, rfl, rfl, rfl⟩
theorem Aft.of_bank {w w' : World} {L : Lc} {S : Sc} {K K' : Kc} (h : OnlyX (fun g => g = K.D) w w') (hd : K'.D = K.D) (hv : ∀ g, g < w.heap.size → K'.v.ownBlock = some g → K.v.ownBlock = some g) : Aft w w' L S K L S K' :=
  ⟨h.more (fun g hg => .inr (.inl hg)), fun b hb h => by
    rcases h with h | h | h
    · exact .inl h
    · exact .inr (.inl (by rw [← hd]; exact h))
    · exact .inr (.inr (hv b hb h)), fun b _ h => h, fun b h => h, hd, rfl, rfl, rfl⟩
theorem Aft.of_store {w w' : World} {L : Lc} {S S' : Sc} {K : Kc} (h : OnlyX (Own5 L S) w w') (hd : S'.D = S.D) (hg : S'.G = S.G) : Aft w w' L S K L S' K :=
  ⟨h.more (fun g hg => .inl hg), fun b hb h => by
    have e5 := Own5.same (L := L) hd hg
    rcases h with h | h
    · rw [e5] at h; exact .inl h
    · exact .inr h, fun b _ h => h, fun b h => h, rfl, rfl, rfl, rfl⟩
/-- What a call leaves: the bank turned. -/
def BkTo (w0 w : World) (L : Lc) (S : Sc) (K : Kc) (f : Fl) (b : Bk) (w' : World) : Prop := ∃ L' S' K', Aft w w' L S K L' S' K' ∧ BkAt w0 w' L' S' K' f b
end Go.Proofs.Ytjdknddnanopaaa
