/-
  The reference's flash: the same, but that a start leaves the picks. No program in sight.
-/
import Derived.Test.YtfeceamhlphelaaMemF
namespace Go.Proofs.Ytfeceamhlphelaa
open Go.RowKit
set_option linter.unusedVariables false

def startR (f : Fl) : Fl := if f.down = true then { f with down := false, fuse := -1 } else f

/-- Two memories alike: the picks count only under a fuse. -/
structure Sim (f g : Fl) : Prop where
  pg : g.pg = f.pg
  img : g.img = f.img
  wear : g.wear = f.wear
  down : g.down = f.down
  fuse : g.fuse = f.fuse
  picks : f.fuse ≠ -1 → g.picks = f.picks

theorem Sim.refl (f : Fl) : Sim f f := ⟨rfl, rfl, rfl, rfl, rfl, fun _ => rfl⟩
theorem Sim.at {f g : Fl} (h : Sim f g) (p : Int) : atF g p = atF f p := by unfold atF; rw [h.down, h.wear, h.pg]
theorem Sim.page {f g : Fl} (h : Sim f g) (p : Nat) : pageF g p = pageF f p := by unfold pageF; rw [h.img]
theorem Sim.read {f g : Fl} (h : Sim f g) (p : Int) : readF g p = readF f p := by unfold readF; rw [h.at, h.page]
theorem Sim.cut {f g : Fl} (h : Sim f g) : (cutF g).2 = (cutF f).2 ∧ Sim (cutF f).1 (cutF g).1 := by
  unfold cutF
  rw [h.fuse]
  by_cases h0 : f.fuse = 0
  · rw [if_pos h0, if_pos h0]
    exact ⟨rfl, h.pg, h.img, h.wear, rfl, rfl, h.picks⟩
  · rw [if_neg h0, if_neg h0]
    by_cases h1 : 0 < f.fuse
    · rw [if_pos h1, if_pos h1]
      exact ⟨rfl, h.pg, h.img, h.wear, h.down, rfl, fun _ => h.picks (by omega)⟩
    · rw [if_neg h1, if_neg h1]
      exact ⟨rfl, h⟩
theorem cut_fuse {f : Fl} (h : (cutF f).2 = true) : f.fuse = 0 := by
  unfold cutF at h
  split at h
  · assumption
  · split at h <;> simp at h
theorem Sim.set {f g : Fl} (h : Sim f g) (i : List Int) (w : List Int) : Sim { f with img := i, wear := w } { g with img := i, wear := w } := ⟨h.pg, rfl, rfl, h.down, h.fuse, h.picks⟩
theorem Sim.seti {f g : Fl} (h : Sim f g) (i : List Int) : Sim { f with img := i } { g with img := i } := ⟨h.pg, rfl, h.wear, h.down, h.fuse, h.picks⟩
theorem Sim.prog {f g : Fl} (h : Sim f g) (p : Int) (b : List Int) : (progF g p b).2 = (progF f p b).2 ∧ Sim (progF f p b).1 (progF g p b).1 := by
  unfold progF
  rw [h.at, h.page, h.cut.1, h.img]
  split
  · exact ⟨rfl, h⟩
  split
  · exact ⟨rfl, h⟩
  split
  · exact ⟨rfl, h⟩
  split
  · rename_i hc
    rw [h.picks (by rw [cut_fuse hc]; omega)]
    exact ⟨rfl, h.cut.2.seti _⟩
  · exact ⟨rfl, h.cut.2.seti _⟩
theorem Sim.erase {f g : Fl} (h : Sim f g) (b : Int) : (eraseF g b).2 = (eraseF f b).2 ∧ Sim (eraseF f b).1 (eraseF g b).1 := by
  unfold eraseF
  rw [h.down, h.wear, h.cut.1, h.img, h.pg]
  split
  · exact ⟨rfl, h⟩
  split
  · exact ⟨rfl, h⟩
  split
  · rename_i hc
    rw [h.picks (by rw [cut_fuse hc]; omega)]
    exact ⟨rfl, h.cut.2.set _ _⟩
  · exact ⟨rfl, h.cut.2.set _ _⟩
theorem Sim.fu {f g : Fl} (h : Sim f g) (n : Int) (p : List Int) : Sim (fuseF f n p) (fuseF g n p) := ⟨h.pg, h.img, h.wear, h.down, rfl, fun _ => rfl⟩
theorem Sim.start {f g : Fl} (h : Sim f g) : Sim (startF f) (startR g) := by
  unfold startF startR
  rw [h.down]
  split
  · exact ⟨h.pg, h.img, h.wear, rfl, rfl, fun hc => absurd rfl hc⟩
  · exact h
theorem startR_ok {f : Fl} (h : f.ok) : (startR f).ok := by
  unfold startR
  split
  · exact ⟨h.p1, h.p2, h.b1, h.b2, h.len, h.byt, h.pby, by simp only; omega, by simp only; omega⟩
  · exact h

/-- A slice that reads as a list, apart from the blocks X. -/
def RdX (X : Nat → Prop) (w : World) (A : Option Addr) (xs : List Value) : Prop :=
  xs ≠ [] → ∃ b off, A = some ⟨b, off, none⟩ ∧ b < w.heap.size ∧ ¬ X b ∧ ∀ j u, xs[j]? = some u → w.cell? ⟨b, off + j, none⟩ = some u
theorem RdX.rd {X : Nat → Prop} {w : World} {A : Option Addr} {xs : List Value} (h : RdX X w A xs) : Rd w w.heap.size A xs := fun hx => by
  obtain ⟨b, off, e, hlt, _, hc⟩ := h hx
  exact ⟨b, off, e, hlt, hc⟩
theorem RdX.below {X : Nat → Prop} {w w' : World} {A : Option Addr} {xs : List Value} (h : RdX X w A xs) (hb : Below w.heap.size w w') : RdX X w' A xs := fun hx => by
  obtain ⟨b, off, e, hlt, hX, hc⟩ := h hx
  exact ⟨b, off, e, Nat.lt_of_lt_of_le hlt hb.size, hX, fun j u hu => (hb.cell (p := ⟨b, off + j, none⟩) hlt).trans (hc j u hu)⟩
theorem RdX.only {L : Lc} {X : Nat → Prop} {w w' : World} {A : Option Addr} {xs : List Value} (h : RdX X w A xs) (hX : X L.d ∧ X L.gi ∧ X L.gw) (k : Only L w w') : RdX X w' A xs := fun hx => by
  obtain ⟨b, off, e, hlt, hn, hc⟩ := h hx
  exact ⟨b, off, e, Nat.lt_of_lt_of_le hlt k.size, hn, fun j u hu => (cell_of_block (k.block b hlt (fun e => hn (e ▸ hX.1)) (fun e => hn (e ▸ hX.2.1)) (fun e => hn (e ▸ hX.2.2)))).trans (hc j u hu)⟩
theorem RdX.new {X : Nat → Prop} {w w' : World} {A : Option Addr} {xs : List Value} {N n c e : Nat} (hX : ∀ b, X b → b < N) (hN : N ≤ w.heap.size) (hn : xs.length = n) (ho : w'.ownsRow w.heap.size e 1 (.slice A n c) n xs) : RdX X w' A xs := fun hx => by
  obtain ⟨A', c', hv, _, _, hg⟩ := own_form ho
  obtain ⟨A2, c2, hv2, _, _, hr⟩ := own_read ho
  injection hv with hv _ _
  injection hv2 with hv2 _ _
  subst hv
  subst hv2
  have hpos : 0 < n := by
    rw [← hn]
    exact List.length_pos_iff.2 hx
  obtain ⟨g, rfl, hge, hlt⟩ := hg hpos
  obtain ⟨b, off, he, hb, hc⟩ := hr hx
  have he' : b = g ∧ off = 0 := by
    injection he with he
    injection he with h1 h2
    exact ⟨h1.symm, h2.symm⟩
  obtain ⟨rfl, rfl⟩ := he'
  exact ⟨b, 0, rfl, hlt, fun h => by have := hX b h; omega, hc⟩
theorem RdX.of {X : Nat → Prop} {w : World} {B : Nat} {A : Option Addr} {xs : List Value} (h : Rd w B A xs) (hB : B ≤ w.heap.size) (hX : ∀ b, X b → B ≤ b) : RdX X w A xs := fun hx => by
  obtain ⟨b, off, e, hlt, hc⟩ := h hx
  exact ⟨b, off, e, Nat.lt_of_lt_of_le hlt hB, fun hx => by have := hX b hx; omega, hc⟩
theorem RdX.apart {L : Lc} {X : Nat → Prop} {w : World} {A : Option Addr} {xs : List Value} (h : RdX X w A xs) (hX : X L.d ∧ X L.gi ∧ X L.gw) : Apart L w A xs := fun hx => by
  obtain ⟨b, off, e, hlt, hn, hc⟩ := h hx
  exact ⟨b, off, e, hlt, fun e => hn (e ▸ hX.1), fun e => hn (e ▸ hX.2.1), fun e => hn (e ▸ hX.2.2), hc⟩
theorem RdX.nil {X : Nat → Prop} {w : World} {A : Option Addr} : RdX X w A [] := fun h => absurd rfl h

/-- Where the slices of a reference's flash lie. -/
structure Rc where
  A : Option Addr
  c : Nat
  B : Option Addr
  d : Nat
  P : Option Addr
  r : Nat
def Rc.l (x : Rc) (g : Fl) : List Value := [.slice x.A g.img.length x.c, .int .i64 g.pg, .slice x.B g.wear.length x.d, .bool g.down, .int .i64 g.fuse, .slice x.P g.picks.length x.r]
abbrev Rc.v (x : Rc) (g : Fl) : Value := .agg #[.slice x.A g.img.length x.c, .int .i64 g.pg, .slice x.B g.wear.length x.d, .bool g.down, .int .i64 g.fuse, .slice x.P g.picks.length x.r]
structure RAt (X : Nat → Prop) (w : World) (x : Rc) (g : Fl) : Prop where
  ok : g.ok
  a : RdX X w x.A (kcells .u8 g.img)
  a1 : g.img.length ≤ x.c
  a2 : x.c ≤ maxLen
  b : RdX X w x.B (icells g.wear)
  b1 : g.wear.length ≤ x.d
  b2 : x.d ≤ maxLen
  p : RdX X w x.P (kcells .u8 g.picks)
  p1 : g.picks.length ≤ x.r
  p2 : x.r ≤ maxLen
theorem RAt.below {X : Nat → Prop} {w w' : World} {x : Rc} {g : Fl} (h : RAt X w x g) (hb : Below w.heap.size w w') : RAt X w' x g :=
  ⟨h.ok, h.a.below hb, h.a1, h.a2, h.b.below hb, h.b1, h.b2, h.p.below hb, h.p1, h.p2⟩
theorem RAt.only {L : Lc} {X : Nat → Prop} {w w' : World} {x : Rc} {g : Fl} (h : RAt X w x g) (hX : X L.d ∧ X L.gi ∧ X L.gw) (k : Only L w w') : RAt X w' x g :=
  ⟨h.ok, h.a.only hX k, h.a1, h.a2, h.b.only hX k, h.b1, h.b2, h.p.only hX k, h.p1, h.p2⟩
theorem RAt.img_len {X : Nat → Prop} {w : World} {x : Rc} {g : Fl} (h : RAt X w x g) : g.img.length ≤ 65536 := by
  rw [h.ok.len]
  have := Nat.mul_le_mul h.ok.b2 h.ok.p2
  omega
/-- Other small parts. -/
theorem RAt.put {X : Nat → Prop} {w : World} {x : Rc} {g : Fl} (h : RAt X w x g) (dn : Bool) (fu : Int) (h1 : -1 ≤ fu) (h2 : fu < 9223372036854775808) : RAt X w x { g with down := dn, fuse := fu } :=
  ⟨⟨h.ok.p1, h.ok.p2, h.ok.b1, h.ok.b2, h.ok.len, h.ok.byt, h.ok.pby, h1, h2⟩, h.a, h.a1, h.a2, h.b, h.b1, h.b2, h.p, h.p1, h.p2⟩
end Go.Proofs.Ytfeceamhlphelaa
