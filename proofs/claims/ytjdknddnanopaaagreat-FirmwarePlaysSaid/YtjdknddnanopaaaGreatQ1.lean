/-
  Part 1 of the proof.
-/
import Derived.WalkKit
import Derived.Lib.Hide
import Derived.Test.YtjdknddnanopaaaGreatChecked
import Derived.Deep.Draws
import Derived.Maps.AppendAt
import Derived.Deep.AppendLies
import Derived.OwnWalk
import Derived.WalkSpells
import Derived.WalkLawsBesides
import Derived.Deep.QuietTactic
import Derived.BigQuiet
import Derived.Laws.BitsAllLaws
import Derived.Laws.BitsLemmas
namespace Go.Proofs.YtjdknddnanopaaaGreat
open Go.RowKit Tryz
set_option maxRecDepth 100000
set_option maxHeartbeats 16000000
set_option linter.all false
variable {w w' w0 : World} {A : Option Addr} {B B' K c i j n : Nat} {X : Nat → Prop} {b m p : List Int} {q x y : Int} {e : TypeId} {o : Oper} {a : Act} {ops : Array Oper}
theorem fT : Below w.heap.size w w.drew := Below.drew (Below.refl _ _)
theorem ex {α : Type} (x : α) : ∃ y, x = y := ⟨x, rfl⟩
theorem iD {p : Prop} (h : p) : Hid p := h
theorem bV : Below B w w := Below.refl _ _
theorem cV : n ≤ n := Nat.le_refl _
abbrev bW (w w' : World) : Prop := Below w.heap.size w w'
theorem oM {p : Prop} (h : p := by omega) : p := h
theorem iN {c : Prop} {h : Decidable c} (hn : ¬c) {α : Sort _} {t e : α} : ite c t e = e := if_neg hn
theorem iP {c : Prop} {h : Decidable c} (hn : c) {α : Sort _} {t e : α} : ite c t e = t := if_pos hn
theorem flat_get {α β : Type} (f : α → List β) (m : Nat) (hm : ∀ a, (f a).length = m) :
 ∀ (l : List α) (k j : Nat) (x : α) (u : β), l[k]? = some x → (f x)[j]? = some u → (l.flatMap f)[k * m + j]? = some u
 | [], k, j, x, u, h, _ => by simp at h
 | a :: l, 0, j, x, u, h, hu => by
  simp at h; subst h
  simp only [List.flatMap_cons, Nat.zero_mul, Nat.zero_add]
  rw [List.getElem?_append_left]
  ·exact hu
  exact (List.getElem?_eq_some_iff.1 hu).1
 | a :: l, k + 1, j, x, u, h, hu => by
  have ih := flat_get f m hm l k j x u (by simpa using h) hu
  simp only [List.flatMap_cons]
  rw [List.getElem?_append_right (by rw [hm, Nat.add_mul]; omega), hm, show (k + 1) * m + j - m = k * m + j by rw [Nat.add_mul]; omega]
  exact ih
theorem lI {α β : Type} (f : α → List β) (m : Nat) (hm : ∀ a, (f a).length = m) :
 ∀ (l : List α), (l.flatMap f).length = l.length * m
 | [] => by simp
 | a :: l => by simp only [List.flatMap_cons, List.length_append, hm, lI f m hm l, List.length_cons, Nat.add_mul]; omega
theorem bA {α : Type} (l : List α) (k : Nat) (x : α) (h : l[k]? = some x) : l.take (k + 1) = l.take k ++ [x] := by
 rw [List.take_add_one, h]; rfl
theorem gO {α : Type} (l : List α) (k : Nat) (x : α) (h : l[k]? = some x) : l.drop k = x :: l.drop (k + 1) := by
 have hk := (List.getElem?_eq_some_iff.1 h)
 obtain ⟨hl, he⟩ := hk
 rw [List.drop_eq_getElem_cons hl, he]
theorem getElem?_of_lt {α : Type} {l : List α} {k : Nat} (h : k < l.length) : ∃ x, l[k]? = some x := ⟨l[k], List.getElem?_eq_getElem h⟩
def Rd (w : World) (B : Nat) (A : Option Addr) (xs : List Value) : Prop :=
 xs ≠ [] → ∃ b off, A = some ⟨b, off, none⟩ ∧ b < B ∧ ∀ j u, xs[j]? = some u → w.cell? ⟨b, off + j, none⟩ = some u
theorem Rd.below {xs : List Value} (h : Rd w B A xs) (hb : Below B' w w') (hB : B ≤ B') : Rd w' B A xs := fun hx => by
 obtain ⟨b, off, e, aW, hc⟩ := h hx
 exact ⟨b, off, e, aW, fun j u hu => (hb.cell (p := ⟨b, off + j, none⟩) (Nat.lt_of_lt_of_le aW hB)).trans (hc j u hu)⟩
theorem Rd.more {xs : List Value} (h : Rd w B A xs) (hB : B ≤ B') : Rd w B' A xs := fun hx => by
 obtain ⟨b, off, e, aW, hc⟩ := h hx
 exact ⟨b, off, e, oM, hc⟩
theorem Below.drewN {a : World} (h : Below B a w) (n : Nat) : Below B a (w.drewN n) := ⟨h.os, h.tape, h.output, h.size, h.block⟩
theorem wm (hb : bW w w') : w.grownBy w' none := ⟨hb.os, hb.tape, hb.output, hb.size, fun k hk _ => hb.block k hk⟩
theorem aD {base : Nat} {size : Nat} {v : Value} {xs : List Value} (h : w.ownsRow base e size v n xs) (hb : bW w w') : w'.ownsRow base e size v n xs :=
 h.kept (wm hb) (by cases hv : v.ownBlock <;> simp)
theorem bL {base : Nat} {size : Nat} {v : Value} {xs : List Value} (h : w.ownsRow base e size v n xs) :
 ∃ A c, v = .slice A n c ∧ n ≤ c ∧ c ≤ maxLen ∧ Rd w w.heap.size A xs := by
 rcases h.2 with ⟨rfl, rfl⟩ | ⟨g, cap, cur, rfl, hb, hg, qa, fS, kY, Gl⟩
 ·refine ⟨none, 0, rfl, Nat.le_refl _, Nat.zero_le _, fun hx => absurd (List.eq_nil_of_length_eq_zero (by simpa using h.1)) hx⟩
 refine ⟨_, cap, rfl, qa, fS, fun _ => ⟨g, 0, rfl, (Array.getElem?_eq_some_iff.1 hg).1, fun j u hu => ?_⟩⟩
 rw [Nat.zero_add, cell_of_row w g j cur e (0, 0) hg]
 rw [← Gl, List.getElem?_take] at hu
 split at hu
 ·simpa using hu
 cases hu
def fy (c : Int) : Value := if c = 0 then .nilIface else .iface 108 (.int .i64 c)
theorem bG : fy 0 = .nilIface := rfl
theorem dJ {c : Int} (h : c ≠ 0) : fy c = .iface 108 (.int .i64 c) := iN h
def aw (l : List Int) : List Value := l.map (Value.int .i64)
theorem Rd.int {l : List Int} (h : Rd w B A (aw l)) {k : Nat} (hx : l[k]? = some x) :
 ∃ b off, A = some ⟨b, off, none⟩ ∧ b < B ∧ w.cell? ⟨b, off + k, none⟩ = some (.int .i64 x) := by
 have hl : (aw l)[k]? = some (.int .i64 x) := by simp [aw, hx]
 have fR : aw l ≠ [] := by
  intro e
  rw [e] at hl
  simp at hl
 obtain ⟨b, off, e, aW, hc⟩ := h fR
 exact ⟨b, off, e, aW, hc _ _ hl⟩
def ag (k : IntKind) (l : List Int) : List Value := l.map (Value.int k)
theorem Rd.mo {k : IntKind} {l : List Int} (h : Rd w B A (ag k l)) (hx : l[j]? = some x) :
 ∃ b off, A = some ⟨b, off, none⟩ ∧ b < B ∧ w.cell? ⟨b, off + j, none⟩ = some (.int k x) := by
 have hl : (ag k l)[j]? = some (.int k x) := by simp [ag, hx]
 have fR : ag k l ≠ [] := by
  intro e
  rw [e] at hl
  simp at hl
 obtain ⟨b, off, e, aW, hc⟩ := h fR
 exact ⟨b, off, e, aW, hc _ _ hl⟩
theorem a9 {base : Nat} {size : Nat} {v : Value} {xs : List Value} (h : w.ownsRow base e size v n xs) :
 ∃ A c, v = .slice A n c ∧ n ≤ c ∧ c ≤ maxLen ∧ (0 < n → ∃ g, A = some ⟨g, 0, none⟩ ∧ base ≤ g ∧ g < w.heap.size) := by
 rcases h.2 with ⟨rfl, rfl⟩ | ⟨g, cap, cur, rfl, hb, hg, qa, fS, kY, Gl⟩
 ·exact ⟨none, 0, rfl, Nat.le_refl _, Nat.zero_le _, fun hx => absurd hx oM⟩
 exact ⟨_, cap, rfl, qa, fS, fun _ => ⟨g, rfl, hb, (Array.getElem?_eq_some_iff.1 hg).1⟩⟩
theorem I4 (w : World) (cs : Array Value) (t : TypeId) (xs : List Value) (h : cs.toList = xs) :
 ∀ j u, xs[j]? = some u → (w.alloc (.cells cs t)).cell? ((⟨w.heap.size, 0, none⟩ : Addr).add j) = some u := by
 intro j u hu
 subst h
 rw [Addr.add_lit, Nat.zero_add, World.cell?_alloc_new]
 simpa using hu
theorem Rd.new (w : World) (cs : Array Value) (t : TypeId) (xs : List Value) (h : cs.toList = xs) : Rd (w.alloc (.cells cs t)) (w.heap.size + 1) (some ⟨w.heap.size, 0, none⟩) xs := fun _ =>
 ⟨w.heap.size, 0, rfl, oM, fun j u hu => by
  subst h
  rw [Nat.zero_add, World.cell?_alloc_new]
  simpa using hu⟩
theorem Rd.initial {xs ys : List Value} (h : Rd w B A xs) (hp : ys <+: xs) : Rd w B A ys := by
 intro hy
 obtain ⟨z, rfl⟩ := hp
 obtain ⟨b, off, e, aW, hc⟩ := h (by simp [hy])
 refine ⟨b, off, e, aW, fun j u hu => hc j u ?_⟩
 rw [List.getElem?_append_left (List.getElem?_eq_some_iff.1 hu).1]
 exact hu
theorem aL {e e' size Vb n' : Nat} {v v' : Value} {xs xs' : List Value} (h : w.ownsRow B e size v n xs) (h' : w.ownsRow B' e' Vb v' n' xs') (fR : e ≠ e') :
 ∀ g, v.ownBlock = some g → v'.ownBlock ≠ some g := by
 intro g hg dr
 rcases h.2 with ⟨rfl, _⟩ | ⟨g1, acw, acu, rfl, _, hh, _⟩
 ·simp [Value.ownBlock] at hg
 simp [Value.ownBlock] at hg
 subst hg
 rcases h'.2 with ⟨rfl, _⟩ | ⟨g2, acv, acs, rfl, _, YR, _⟩
 ·simp [Value.ownBlock] at dr
 simp [Value.ownBlock] at dr
 subst dr
 rw [hh] at YR
 injection YR with YR
 injection YR with _ ht
 exact fR ht
theorem bN {e size : Nat} {v : Value} {xs : List Value} (h : w.ownsRow B e size v n xs) {row : Option Nat} (hg : w.grownBy w' row) (fR : ∀ g, v.ownBlock = some g → row ≠ some g) : w'.ownsRow B e size v n xs := by
 refine h.kept hg ?_
 cases hv : v.ownBlock with
 | none => exact .inl rfl
 | some g => exact .inr (fun e => fR g hv e.symm)
section
variable {P : Program} (w : World)
theorem qF (base : Nat) (t ty e : TypeId) (i : TypeInfo) (size : Nat) (ht : P.underlying t = some (.slice e)) (hi : P.info? e = some i)
 (v : Value) (n : Nat) (xs : List Value) (bX : w.ownsRow base e size v n xs) (c : Nat) : (Builtin.append_ #[t, t] ty #[v, .slice none 0 c]).run P w = .ok v w := by
 rcases bX.2 with ⟨rfl, rfl⟩ | ⟨g, cap, cur, rfl, _, _, qa, _⟩
 ·simp [Builtin.append_, run_underlying ht, sizeOf, typeInfo, hi, Builtin.lenOf, Builtin.firstCells]
 simp [Builtin.append_, run_underlying ht, sizeOf, typeInfo, hi, Builtin.lenOf, Builtin.firstCells, qa, storeCells]
theorem oU (base : Nat) (t ty e : TypeId) (i : TypeInfo) (size : Nat) (ht : P.underlying t = some (.slice e)) (hi : P.info? e = some i)
 (v : Value) (n : Nat) (xs : List Value) (bX : w.ownsRow base e size v n xs) (A : Option Addr) (c : Nat) : (Builtin.append_ #[t, t] ty #[v, .slice A 0 c]).run P w = .ok v w := by
 cases A with
 | none => exact qF w base t ty e i size ht hi v n xs bX c
 | some ad =>
  rcases bX.2 with ⟨rfl, rfl⟩ | ⟨g, cap, cur, rfl, _, _, qa, _⟩
  ·simp [Builtin.append_, run_underlying ht, sizeOf, typeInfo, hi, Builtin.lenOf, Builtin.firstCells, loadCells, loadCellsFrom]
  simp [Builtin.append_, run_underlying ht, sizeOf, typeInfo, hi, Builtin.lenOf, Builtin.firstCells, qa, storeCells, loadCells, loadCellsFrom]
theorem xH (base : Nat) (t ty e : TypeId) (i : TypeInfo) (z : Value) (size bytes : Nat) (ht : P.underlying t = some (.slice e)) (hi : P.info? e = some i) (hz : i.zero = some z)
 (gJ : i.size = size) (uc : i.bytes = bytes) (Cd : z.cells.size = size) (hsz : 0 < size)
 (v : Value) (n : Nat) (xs : List Value) (bX : w.ownsRow base e size v n xs)
 (B : Nat) (A : Option Addr) (m c : Nat) (news : List Value) (hr : Rd w B A news) (hl : news.length = m * size) (h1 : ∀ u ∈ news, u.oneCell' = true)
 (JW : n + m ≤ maxLen) (kG : (n + m) * bytes ≤ 140737488355328) (wj : base ≤ w.heap.size) :
 ∃ v' w', (Builtin.append_ #[t, t] ty #[v, .slice A m c]).run P w = .ok v' w' ∧ w'.ownsRow base e size v' (n + m) (xs ++ news) ∧ w.grownBy w' v.ownBlock ∧
  (v'.ownBlock = v.ownBlock ∨ v'.ownBlock = some w.heap.size) := by
 by_cases hm : m = 0
 ·subst hm
  have hn : news = [] := List.eq_nil_of_length_eq_zero (by simpa using hl)
  subst hn
  exact ⟨v, w, oU w base t ty e i size ht hi v n xs bX A c, by simpa using bX, World.grownBy.refl w _, .inl rfl⟩
 have fR : news ≠ [] := by
  rintro rfl
  have := Nat.mul_pos (Nat.pos_of_ne_zero hm) hsz
  rw [List.length_nil] at hl
  omega
 obtain ⟨b, off, rfl, hbB, hc⟩ := hr fR
 have sS : ∀ j u, news[j]? = some u → w.cell? ((⟨b, off, none⟩ : Addr).add j) = some u := by
  intro j u hu
  rw [Addr.add_lit]
  exact hc j u hu
 obtain ⟨v', w', nP, h2, h3, _, h5⟩ := run_append_own_at (P := P) w base t ty e i z size bytes ht hi hz gJ uc Cd hsz v n xs bX _ m c news hl sS h1 JW kG wj
 exact ⟨v', w', nP, h2, h3, h5⟩
theorem qA {K : Act → World → Prop} {Q : Exit → Act → World → Prop} (s x : Operand) (t : TypeId) 
 (ho : o.op = .call { callee := .builtin .append, args := #[s, x], argTypes := #[t, t] })
 (base : Nat) (e : TypeId) (i : TypeInfo) (z : Value) (size bytes : Nat) (ht : P.underlying t = some (.slice e)) (hi : P.info? e = some i) (hz : i.zero = some z)
 (gJ : i.size = size) (uc : i.bytes = bytes) (Cd : z.cells.size = size) (hsz : 0 < size)
 (v : Value) (n : Nat) (xs : List Value) (hs : a.eval s = v) (bX : w.ownsRow base e size v n xs)
 (B : Nat) (A : Option Addr) (m c : Nat) (news : List Value) (hx : a.eval x = .slice A m c) (hr : Rd w B A news) (hl : news.length = m * size) (h1 : ∀ u ∈ news, u.oneCell' = true)
 (JW : n + m ≤ maxLen) (kG : (n + m) * bytes ≤ 140737488355328) (wj : base ≤ w.heap.size)
 (h : ∀ v' w', w'.ownsRow base e size v' (n + m) (xs ++ news) → w.grownBy w' v.ownBlock → (v'.ownBlock = v.ownBlock ∨ v'.ownBlock = some w.heap.size) → K (a.put o.dst v') w') : o.wp P a w K Q := by
 obtain ⟨v', w', nP, h2, h3, h4⟩ := xH (P := P) w base t o.type e i z size bytes ht hi hz gJ uc Cd hsz v n xs bX B A m c news hr hl h1 JW kG wj
 unfold Oper.wp execOp
 simp only [ho, resolve, invoke, builtin, Sem.run_bind, Sem.run_pure, Result.andThen_ok, List.map_toArray, List.map_cons, List.map_nil, hs, hx, nP]
 exact h v' w' h2 h3 h4
theorem aM {rest : List Oper} {Q : Exit → Act → World → Prop} (nz : o.guard = none) (s x : Operand) (t : TypeId) 
 (ho : o.op = .call { callee := .builtin .append, args := #[s, x], argTypes := #[t, t] })
 (base : Nat) (e : TypeId) (i : TypeInfo) (z : Value) (size bytes : Nat) (ht : P.underlying t = some (.slice e)) (hi : P.info? e = some i) (hz : i.zero = some z)
 (gJ : i.size = size) (uc : i.bytes = bytes) (Cd : z.cells.size = size) (hsz : 0 < size)
 (v : Value) (n : Nat) (xs : List Value) (hs : a.eval s = v) (bX : w.ownsRow base e size v n xs)
 (B : Nat) (A : Option Addr) (m c : Nat) (news : List Value) (hx : a.eval x = .slice A m c) (hr : Rd w B A news) (hl : news.length = m * size) (h1 : ∀ u ∈ news, u.oneCell' = true)
 (JW : n + m ≤ maxLen) (kG : (n + m) * bytes ≤ 140737488355328) (wj : base ≤ w.heap.size)
 (h : ∀ v' w', w'.ownsRow base e size v' (n + m) (xs ++ news) → w.grownBy w' v.ownBlock → (v'.ownBlock = v.ownBlock ∨ v'.ownBlock = some w.heap.size) → wpList P ops Q rest (a.put o.dst v') w') : wpList P ops Q (o :: rest) a w :=
 wpList_plain nz fun _ hK => qA w s x t ho base e i z size bytes ht hi hz gJ uc Cd hsz v n xs hs bX B A m c news hx hr hl h1 JW kG wj fun v' w' h2 h3 h4 => hK _ _ (h v' w' h2 h3 h4)
end
theorem vh {P : Program} {K : Act → World → Prop} {Q : Exit → Act → World → Prop} {E : Prop} 
 (hg : o.guard = none) (s x : Operand) (t : TypeId) (ho : o.op = .call { callee := .builtin .append, args := #[s, x], argTypes := #[t, t] })
 (base : Nat) (e : TypeId) (i : TypeInfo) (z : Value) (size bytes : Nat) (ht : P.underlying t = some (.slice e)) (hi : P.info? e = some i) (hz : i.zero = some z)
 (gJ : i.size = size) (uc : i.bytes = bytes) (Cd : z.cells.size = size) (hsz : 0 < size)
 (v : Value) (n : Nat) (xs : List Value) (hs : a.eval s = v) (bX : w.ownsRow base e size v n xs)
 (B : Nat) (A : Option Addr) (m c : Nat) (news : List Value) (hx : a.eval x = .slice A m c) (hr : Rd w B A news) (hl : news.length = m * size) (h1 : ∀ u ∈ news, u.oneCell' = true)
 (JW : n + m ≤ maxLen) (kG : (n + m) * bytes ≤ 140737488355328) (wj : base ≤ w.heap.size)
 (h : ∀ v' w', w'.ownsRow base e size v' (n + m) (xs ++ news) → w.grownBy w' v.ownBlock → (v'.ownBlock = v.ownBlock ∨ v'.ownBlock = some w.heap.size) → K (a.put o.dst v') w') :
 if Region.wanted o (yielded ops a.tmps) = true then Oper.wp P o a w K Q else E := by
 have hw : Region.wanted o (yielded ops a.tmps) = true := by simp [Region.wanted, hg]
 rw [iP hw]
 exact qA w s x t ho base e i z size bytes ht hi hz gJ uc Cd hsz v n xs hs bX B A m c news hx hr hl h1 JW kG wj h
def Bytes (b : List Int) : Prop := ∀ x ∈ b, 0 ≤ x ∧ x < 256
theorem bf (x : Int) (h0 : -9223372036854775808 ≤ x) (h1 : x < 9223372036854775808) : IntKind.i64.wrap x = x := IntWalk.i64_in _ oM
theorem ofInt_u8 (a : Nat) (ha : a < 256) : (BitVec.ofInt 8 (a : Int)).toNat = a := by
 rw [BitVec.ofInt_natCast, BitVec.toNat_ofNat]; exact Nat.mod_eq_of_lt oM
theorem u8_or_nat (a b : Nat) (ha : a < 256) (hb : b < 256) : bits .or .u8 (a : Int) (b : Int) = ((a ||| b : Nat) : Int) := by
 have hx : a ||| b < 2 ^ 8 := Nat.or_lt_two_pow oM oM
 show IntKind.u8.wrap ((BitVec.ofInt 8 (a : Int) ||| BitVec.ofInt 8 (b : Int)).toNat : Int) = _
 rw [BitVec.toNat_or, ofInt_u8 a ha, ofInt_u8 b hb]
 show ((a ||| b : Nat) : Int) % 256 = _
 omega
structure Fl where
 pg : Nat
 img : List Int
 aq : List Int
 aF : Bool
 be : Int
 az : List Int
 deriving Inhabited
variable {f g : Fl}
structure Fl.ok (f : Fl) : Prop where
 p1 : 1 ≤ f.pg
 p2 : f.pg ≤ 16
 b1 : 1 ≤ f.aq.length
 b2 : f.aq.length ≤ 64
 len : f.img.length = f.aq.length * f.pg * 64
 wQ : Bytes f.img
 yz : Bytes f.az
 LK : -1 ≤ f.be
 LJ : f.be < 9223372036854775808
def nv (x y : Int) : Int := bits .or .u8 x y
def dj (p : List Int) (i : Nat) : Int := p[i]?.getD 0
def eK (b p : List Int) : List Int := b.mapIdx (fun i x => nv x (dj p i))
def lay (img : List Int) (qq : Nat) (b : List Int) : List Int := img.take qq ++ b ++ img.drop (qq + b.length)
def lZ (f : Fl) (page : Int) : Int := if f.aF = true then 20 else if page < 0 ∨ (f.aq.length * f.pg : Nat) ≤ page then 10 else 0
def aB (f : Fl) (p : Nat) : List Int := (f.img.drop (64 * p)).take 64
def ft (f : Fl) (page : Int) : List Int × Int := if lZ f page ≠ 0 then ([], lZ f page) else (aB f page.toNat, 0)
def dx (f : Fl) : Fl × Bool := if f.be = 0 then ({ f with aF := true }, true) else if 0 < f.be then ({ f with be := f.be - 1 }, false) else (f, false)
def ch (b : List Int) : Bool := b.all (fun x => decide (x = 255))
def bz (f : Fl) (page : Int) (b : List Int) : Fl × Int :=
 if lZ f page ≠ 0 then (f, lZ f page) else if b.length ≠ 64 then (f, 11) else if ch (aB f page.toNat) = false then (f, 12) else
 if (dx f).2 = true then ({ (dx f).1 with img := lay f.img (64 * page.toNat) (eK b f.az) }, 20) else ({ (dx f).1 with img := lay f.img (64 * page.toNat) b }, 0)
def fa (l : List Int) (i : Nat) : List Int := l.set i (wrap64 (l[i]?.getD 0 + 1))
def aT (f : Fl) (block : Int) : Fl × Int :=
 if f.aF = true then (f, 20) else if block < 0 ∨ (f.aq.length : Nat) ≤ block then (f, 10) else
 if (dx f).2 = true then ({ (dx f).1 with img := lay f.img (64 * f.pg * block.toNat) (eK ((f.img.drop (64 * f.pg * block.toNat)).take (64 * f.pg)) f.az), aq := fa f.aq block.toNat }, 20)
 else ({ (dx f).1 with img := lay f.img (64 * f.pg * block.toNat) (List.replicate (64 * f.pg) 255), aq := fa f.aq block.toNat }, 0)
def fM (f : Fl) (n : Int) (p : List Int) : Fl := { f with be := max n (-1), az := p }
def aR (f : Fl) : Fl := if f.aF = true then { f with aF := false, be := -1, az := [] } else f
def ee (b p : Nat) : Fl := ⟨p, List.replicate (b * p * 64) 255, List.replicate b 0, false, -1, []⟩
theorem cL (img : List Int) (a : Nat) (b : List Int) (h : a + b.length ≤ img.length) : (lay img a b).length = img.length := by
 unfold lay
 rw [List.length_append, List.length_append, List.length_take, List.length_drop]
 omega
theorem mV (img : List Int) (a : Nat) (b : List Int) (h : a + b.length ≤ img.length) (i : Nat) : (lay img a b)[i]? = if a ≤ i ∧ i < a + b.length then b[i - a]? else img[i]? := by
 unfold lay
 by_cases h1 : i < a
 ·rw [iN oM, List.getElem?_append_left (by rw [List.length_append, List.length_take]; omega), List.getElem?_append_left (by rw [List.length_take]; omega), List.getElem?_take, iP h1]
 by_cases h2 : i < a + b.length
 ·rw [iP oM, List.getElem?_append_left (by rw [List.length_append, List.length_take]; omega), List.getElem?_append_right (by rw [List.length_take]; omega), List.length_take]
  rw [show i - min a img.length = i - a by omega]
 rw [iN oM, List.getElem?_append_right (by rw [List.length_append, List.length_take]; omega), List.length_append, List.length_take, List.getElem?_drop]
 congr 1
 omega
theorem db (b p : List Int) : (eK b p).length = b.length := by simp [eK]
theorem eJ (b p : List Int) (i : Nat) : (eK b p)[i]? = b[i]?.map (fun x => nv x (dj p i)) := by simp [eK]
theorem ef (h : Bytes p) (i : Nat) : 0 ≤ dj p i ∧ dj p i < 256 := by
 unfold dj
 cases e : p[i]? with
 | none => simp
 | some x => exact h x (List.mem_of_getElem? e)
theorem nL (hx : 0 ≤ x ∧ x < 256) (hy : 0 ≤ y ∧ y < 256) : 0 ≤ nv x y ∧ nv x y < 256 := by
 obtain ⟨X, rfl⟩ := Int.eq_ofNat_of_zero_le hx.1
 obtain ⟨Y, rfl⟩ := Int.eq_ofNat_of_zero_le hy.1
 unfold nv
 rw [u8_or_nat X Y oM oM]
 have : X ||| Y < 2 ^ 8 := Nat.or_lt_two_pow oM oM
 omega
theorem ku (hb : Bytes b) (hp : Bytes p) : Bytes (eK b p) := by
 intro x hx
 obtain ⟨i, hi⟩ := List.mem_iff_getElem?.1 hx
 rw [eJ] at hi
 cases e : b[i]? with
 | none => rw [e] at hi; simp at hi
 | some y =>
  rw [e] at hi
  simp at hi
  subst hi
  exact nL (hb y (List.mem_of_getElem? e)) (ef hp i)
theorem mn {img : List Int} {a : Nat} (hi : Bytes img) (hb : Bytes b) : Bytes (lay img a b) := by
 intro x hx
 unfold lay at hx
 rcases List.mem_append.1 hx with h | h
 ·rcases List.mem_append.1 h with h | h
  ·exact hi x (List.mem_of_mem_take h)
  exact hb x h
 exact hi x (List.mem_of_mem_drop h)
theorem dW (f : Fl) : (dx f).1.pg = f.pg ∧ (dx f).1.img = f.img ∧ (dx f).1.aq = f.aq ∧ (dx f).1.az = f.az := by
 unfold dx
 split
 ·exact ⟨rfl, rfl, rfl, rfl⟩
 split <;> exact ⟨rfl, rfl, rfl, rfl⟩
theorem te (h1 : -1 ≤ f.be) (h2 : f.be < 9223372036854775808) : -1 ≤ (dx f).1.be ∧ (dx f).1.be < 9223372036854775808 := by
 unfold dx
 split
 ·exact ⟨h1, h2⟩
 split
 ·simp only; omega
 exact ⟨h1, h2⟩
theorem dz (l : List Int) (i : Nat) : (fa l i).length = l.length := by simp [fa]
theorem rB {page : Int} (h : lZ f page = 0) : f.aF = false ∧ 0 ≤ page ∧ page < (f.aq.length * f.pg : Nat) := by
 unfold lZ at h
 split at h
 ·simp at h
 split at h
 ·simp at h
 rename_i h1 h2
 exact ⟨by simpa using h1, oM, oM⟩
theorem nK {page : Int} (h : f.ok) (hb : Bytes b) : (bz f page b).1.ok := by
 unfold bz
 split
 ·exact h
 rename_i h0
 obtain ⟨_, a1, a2⟩ := rB (by omega : lZ f page = 0)
 split
 ·exact h
 rename_i h1
 split
 ·exact h
 obtain ⟨e1, e2, e3, e4⟩ := dW f
 obtain ⟨g1, g2⟩ := te h.LK h.LJ
 have hl : 64 * page.toNat + 64 ≤ f.img.length := by
  rw [h.len]
  have : page.toNat + 1 ≤ f.aq.length * f.pg := oM
  omega
 split
 ·refine ⟨by simpa [e1] using h.p1, by simpa [e1] using h.p2, by simpa [e3] using h.b1, by simpa [e3] using h.b2, ?_, ?_, by simpa [e4] using h.yz, g1, g2⟩
  ·simp only [e1, e3]
   rw [cL _ _ _ (by rw [db]; omega), h.len]
  exact mn h.wQ (ku hb h.yz)
 refine ⟨by simpa [e1] using h.p1, by simpa [e1] using h.p2, by simpa [e3] using h.b1, by simpa [e3] using h.b2, ?_, ?_, by simpa [e4] using h.yz, g1, g2⟩
 ·simp only [e1, e3]
  rw [cL _ _ _ oM, h.len]
 exact mn h.wQ hb
theorem kr {block : Int} (h : f.ok) : (aT f block).1.ok := by
 unfold aT
 split
 ·exact h
 split
 ·exact h
 rename_i h1 h2
 obtain ⟨e1, e2, e3, e4⟩ := dW f
 obtain ⟨g1, g2⟩ := te h.LK h.LJ
 have hb : block.toNat + 1 ≤ f.aq.length := oM
 have hl : 64 * f.pg * block.toNat + 64 * f.pg ≤ f.img.length := by
  rw [h.len]
  have := Nat.mul_le_mul_right (64 * f.pg) hb
  rw [Nat.add_mul, Nat.one_mul] at this
  rw [Nat.mul_comm (64 * f.pg), Nat.mul_assoc f.aq.length, Nat.mul_comm f.pg 64]
  exact this
 split
 ·refine ⟨by simpa [e1] using h.p1, by simpa [e1] using h.p2, by simpa [dz] using h.b1, by simpa [dz] using h.b2, ?_, ?_, by simpa [e4] using h.yz, g1, g2⟩
  ·simp only [e1, dz]
   rw [cL _ _ _ (by rw [db, List.length_take, List.length_drop]; omega), h.len]
  exact mn h.wQ (ku (fun x hx => h.wQ x (List.mem_of_mem_drop (List.mem_of_mem_take hx))) h.yz)
 refine ⟨by simpa [e1] using h.p1, by simpa [e1] using h.p2, by simpa [dz] using h.b1, by simpa [dz] using h.b2, ?_, ?_, by simpa [e4] using h.yz, g1, g2⟩
 ·simp only [e1, dz]
  rw [cL _ _ _ (by rw [List.length_replicate]; omega), h.len]
 refine mn h.wQ (fun x hx => ?_)
 rw [List.mem_replicate] at hx
 omega
theorem nW {n : Int} (h : f.ok) (hp : Bytes p) (hn : n < 9223372036854775808) : (fM f n p).ok :=
 ⟨h.p1, h.p2, h.b1, h.b2, h.len, h.wQ, hp, by simp only [fM]; omega, by simp only [fM]; omega⟩
theorem me (h : f.ok) : (aR f).ok := by
 unfold aR
 split
 ·exact ⟨h.p1, h.p2, h.b1, h.b2, h.len, h.wQ, by intro x hx; simp at hx, by simp only; omega, by simp only; omega⟩
 exact h
theorem Gh {b p : Nat} (h1 : 1 ≤ b) (h2 : b ≤ 64) (h3 : 1 ≤ p) (h4 : p ≤ 16) : (ee b p).ok :=
 ⟨h3, h4, by simpa [ee] using h1, by simpa [ee] using h2, by simp [ee], (by
  intro x hx
  simp only [ee, List.mem_replicate] at hx
  omega), by intro x hx; simp [ee] at hx, by simp [ee], by simp [ee]⟩
structure Lc where
 d : Nat
 gi : Nat
 gw : Nat
 ci : Nat
 cw : Nat
 Ap : Option Addr
 cp : Nat
 E : Nat → Prop
variable {L L' : Lc}
def gQ (L : Lc) (w : World) (A : Option Addr) (xs : List Value) : Prop :=
 xs ≠ [] → ∃ b off, A = some ⟨b, off, none⟩ ∧ b < w.heap.size ∧ b ≠ L.d ∧ b ≠ L.gi ∧ b ≠ L.gw ∧ ∀ j u, xs[j]? = some u → w.cell? ⟨b, off + j, none⟩ = some u
structure cE (L : Lc) (w w' : World) : Prop where
 size : w.heap.size ≤ w'.heap.size
 block : ∀ k, k < w.heap.size → k ≠ L.d → k ≠ L.gi → k ≠ L.gw → w'.heap[k]? = w.heap[k]?
theorem cE.refl (L : Lc) (w : World) : cE L w w := ⟨Nat.le_refl _, fun _ _ _ _ _ => rfl⟩
theorem cE.trans {a b c : World} (h : cE L a b) (k : cE L b c) : cE L a c :=
 ⟨Nat.le_trans h.size k.size, fun i hi h1 h2 h3 => (k.block i (Nat.lt_of_lt_of_le hi h.size) h1 h2 h3).trans (h.block i hi h1 h2 h3)⟩
theorem cE.ak (h : bW w w') : cE L w w' := ⟨h.size, fun k hk _ _ _ => h.block k hk⟩
theorem cE.set (w : World) (p : Addr) (u : Value) (h : p.block = L.d ∨ p.block = L.gi ∨ p.block = L.gw) : cE L w (w.setCell p u) :=
 ⟨by simp [World.setCell], fun k _ h1 h2 h3 => Below.heap_setCell _ _ _ _ oM⟩
theorem cE.same (h : cE L w w') (h1 : L'.d = L.d) (h2 : L'.gi = L.gi) (h3 : L'.gw = L.gw) : cE L' w w' := ⟨h.size, fun k hk a b c => h.block k hk oM oM oM⟩
theorem cell_of_block {b o : Nat} (h : w'.heap[b]? = w.heap[b]?) : w'.cell? ⟨b, o, none⟩ = w.cell? ⟨b, o, none⟩ := by
 simp only [World.cell?, h]
theorem gQ.only {xs : List Value} (h : gQ L w A xs) (k : cE L w w') : gQ L w' A xs := fun hx => by
 obtain ⟨b, off, e, aW, h1, h2, h3, hc⟩ := h hx
 exact ⟨b, off, e, Nat.lt_of_lt_of_le aW k.size, h1, h2, h3, fun j u hu => (cell_of_block (k.block b aW h1 h2 h3)).trans (hc j u hu)⟩
theorem gQ.rd {xs : List Value} (h : gQ L w A xs) : Rd w w.heap.size A xs := fun hx => by
 obtain ⟨b, off, e, aW, h1, h2, h3, hc⟩ := h hx
 exact ⟨b, off, e, aW, hc⟩
theorem gQ.same {xs : List Value} (h : gQ L w A xs) (h1 : L'.d = L.d) (h2 : L'.gi = L.gi) (h3 : L'.gw = L.gw) : gQ L' w A xs := fun hx => by
 obtain ⟨b, off, e, aW, g1, g2, g3, hc⟩ := h hx
 exact ⟨b, off, e, aW, oM, oM, oM, hc⟩
structure bB (w0 w : World) (L : Lc) (f : Fl) : Prop where
 ok : f.ok
 below : bW w0 w
 bd : w0.heap.size ≤ L.d
 ld : L.d < w.heap.size
 ni : L.d ≠ L.gi
 nw : L.d ≠ L.gw
 iw : L.gi ≠ L.gw
 c0 : w.cell? ⟨L.d, 0, none⟩ = some (.int .i64 f.pg)
 c1 : w.cell? ⟨L.d, 1, none⟩ = some (.slice (some ⟨L.gi, 0, none⟩) f.img.length L.ci)
 c2 : w.cell? ⟨L.d, 2, none⟩ = some (.slice (some ⟨L.gw, 0, none⟩) f.aq.length L.cw)
 c3 : w.cell? ⟨L.d, 3, none⟩ = some (.bool f.aF)
 c4 : w.cell? ⟨L.d, 4, none⟩ = some (.int .i64 f.be)
 c5 : w.cell? ⟨L.d, 5, none⟩ = some (.slice L.Ap f.az.length L.cp)
 fz : ∀ j, w.frozen? ⟨L.d, j, none⟩ = false
 oi : w.ownsRow w0.heap.size 5 1 (.slice (some ⟨L.gi, 0, none⟩) f.img.length L.ci) f.img.length (ag .u8 f.img)
 ow : w.ownsRow w0.heap.size 3 1 (.slice (some ⟨L.gw, 0, none⟩) f.aq.length L.cw) f.aq.length (aw f.aq)
 pc : f.az.length ≤ L.cp
 pm : L.cp ≤ maxLen
 pk : gQ L w L.Ap (ag .u8 f.az)
 eb : ∀ b, L.E b → b < w.heap.size
theorem bB.bi (h : bB w0 w L f) : w0.heap.size ≤ L.gi ∧ L.gi < w.heap.size := h.oi.lt _ rfl
theorem bB.bw (h : bB w0 w L f) : w0.heap.size ≤ L.gw ∧ L.gw < w.heap.size := h.ow.lt _ rfl
theorem bB.ab (h : bB w0 w L f) (hb : bW w w') : bB w0 w' L f := by
 have hc : ∀ j, w'.cell? ⟨L.d, j, none⟩ = w.cell? ⟨L.d, j, none⟩ := fun j => hb.cell (p := ⟨L.d, j, none⟩) h.ld
 exact ⟨h.ok, h.below.trans (hb.mono h.below.size), h.bd, Nat.lt_of_lt_of_le h.ld hb.size, h.ni, h.nw, h.iw, (hc 0).trans h.c0, (hc 1).trans h.c1, (hc 2).trans h.c2, (hc 3).trans h.c3, (hc 4).trans h.c4, (hc 5).trans h.c5,
  fun j => (hb.frozen (p := ⟨L.d, j, none⟩) h.ld).trans (h.fz j), aD h.oi hb, aD h.ow hb, h.pc, h.pm, h.pk.only (cE.ak hb), fun b hE => Nat.lt_of_lt_of_le (h.eb b hE) hb.size⟩
theorem bB.alloc (h : bB w0 w L f) (o : Obj) : bB w0 (w.alloc o) L f := h.ab (bV.alloc cV o)
theorem bB.drewN (h : bB w0 w L f) (n : Nat) : bB w0 (w.drewN n) L f := h.ab (Below.drewN bV n)
theorem bB.img (h : bB w0 w L f) (k : Nat) (x : Int) (hx : 0 ≤ x ∧ x < 256) :
 bB w0 (w.setCell ⟨L.gi, k, none⟩ (.int .u8 x)) L { f with img := f.img.set k x } ∧ cE L w (w.setCell ⟨L.gi, k, none⟩ (.int .u8 x)) := by
 have ho := cE.set w ⟨L.gi, k, none⟩ (.int .u8 x) (.inr (.inl rfl) : L.gi = L.d ∨ L.gi = L.gi ∨ L.gi = L.gw)
 have hb : bW w0 (w.setCell ⟨L.gi, k, none⟩ (.int .u8 x)) := h.below.setCell (p := ⟨L.gi, k, none⟩) h.bi.1 _
 have hd : ∀ j, (w.setCell ⟨L.gi, k, none⟩ (.int .u8 x)).cell? ⟨L.d, j, none⟩ = w.cell? ⟨L.d, j, none⟩ := fun j => cell_of_block (Below.heap_setCell _ _ _ _ (by exact h.ni))
 have hi : (w.setCell ⟨L.gi, k, none⟩ (.int .u8 x)).ownsRow w0.heap.size 5 1 (.slice (some ⟨L.gi, 0, none⟩) f.img.length L.ci) f.img.length (ag .u8 (f.img.set k x)) := by
  have e : ag .u8 (f.img.set k x) = (ag .u8 f.img).set k (.int .u8 x) := by simp [ag]
  rw [e]
  exact (h.oi.stored k (.int .u8 x)).1
 refine ⟨⟨⟨h.ok.p1, h.ok.p2, h.ok.b1, h.ok.b2, by simpa using h.ok.len, ?_, h.ok.yz, h.ok.LK, h.ok.LJ⟩, hb, h.bd, by simpa [World.setCell] using h.ld, h.ni, h.nw, h.iw, (hd 0).trans h.c0, ?_, (hd 2).trans h.c2, (hd 3).trans h.c3, (hd 4).trans h.c4, (hd 5).trans h.c5, ?_, ?_, ?_, h.pc, h.pm, h.pk.only ho, fun b hE => Nat.lt_of_lt_of_le (h.eb b hE) ho.size⟩, ho⟩
 ·intro y hy
  rcases List.mem_or_eq_of_mem_set hy with g | g
  ·exact h.ok.wQ y g
  rw [g]; exact hx
 ·rw [hd 1, h.c1]; simp
 ·intro j
  rw [World.frozen?_setCell]
  exact h.fz j
 ·simpa using hi
 exact ownsRow_setCell_other h.ow (by simpa [Value.ownBlock] using fun e => h.iw e.symm) _
theorem bB.wr (h : bB w0 w L f) (k : Nat) (x : Int) :
 bB w0 (w.setCell ⟨L.gw, k, none⟩ (.int .i64 x)) L { f with aq := f.aq.set k x } ∧ cE L w (w.setCell ⟨L.gw, k, none⟩ (.int .i64 x)) := by
 have ho := cE.set w ⟨L.gw, k, none⟩ (.int .i64 x) (.inr (.inr rfl) : L.gw = L.d ∨ L.gw = L.gi ∨ L.gw = L.gw)
 have hb : bW w0 (w.setCell ⟨L.gw, k, none⟩ (.int .i64 x)) := h.below.setCell (p := ⟨L.gw, k, none⟩) h.bw.1 _
 have hd : ∀ j, (w.setCell ⟨L.gw, k, none⟩ (.int .i64 x)).cell? ⟨L.d, j, none⟩ = w.cell? ⟨L.d, j, none⟩ := fun j => cell_of_block (Below.heap_setCell _ _ _ _ (by exact h.nw))
 have hi : (w.setCell ⟨L.gw, k, none⟩ (.int .i64 x)).ownsRow w0.heap.size 3 1 (.slice (some ⟨L.gw, 0, none⟩) f.aq.length L.cw) f.aq.length (aw (f.aq.set k x)) := by
  have e : aw (f.aq.set k x) = (aw f.aq).set k (.int .i64 x) := by simp [aw]
  rw [e]
  exact (h.ow.stored k (.int .i64 x)).1
 refine ⟨⟨⟨h.ok.p1, h.ok.p2, by simpa using h.ok.b1, by simpa using h.ok.b2, by simpa using h.ok.len, h.ok.wQ, h.ok.yz, h.ok.LK, h.ok.LJ⟩, hb, h.bd, by simpa [World.setCell] using h.ld, h.ni, h.nw, h.iw, (hd 0).trans h.c0, (hd 1).trans h.c1, ?_, (hd 3).trans h.c3, (hd 4).trans h.c4, (hd 5).trans h.c5, ?_, ?_, ?_, h.pc, h.pm, h.pk.only ho, fun b hE => Nat.lt_of_lt_of_le (h.eb b hE) ho.size⟩, ho⟩
 ·rw [hd 2, h.c2]; simp
 ·intro j
  rw [World.frozen?_setCell]
  exact h.fz j
 ·exact ownsRow_setCell_other h.oi (by simpa [Value.ownBlock] using h.iw) _
 simpa using hi
theorem bB.La (h : bB w0 w L f) (j : Nat) (u : Value) (hw : w' = w.setCell ⟨L.d, j, none⟩ u) :
 bW w0 w' ∧ L.d < w'.heap.size ∧ (∀ i, w'.frozen? ⟨L.d, i, none⟩ = false) ∧ cE L w w' ∧
 w'.ownsRow w0.heap.size 5 1 (.slice (some ⟨L.gi, 0, none⟩) f.img.length L.ci) f.img.length (ag .u8 f.img) ∧
 w'.ownsRow w0.heap.size 3 1 (.slice (some ⟨L.gw, 0, none⟩) f.aq.length L.cw) f.aq.length (aw f.aq) ∧ gQ L w' L.Ap (ag .u8 f.az) ∧ (∀ i, i ≠ j → w'.cell? ⟨L.d, i, none⟩ = w.cell? ⟨L.d, i, none⟩) := by
 subst hw
 have ho := cE.set w ⟨L.d, j, none⟩ u (.inl rfl : L.d = L.d ∨ L.d = L.gi ∨ L.d = L.gw)
 refine ⟨h.below.setCell (p := ⟨L.d, j, none⟩) h.bd _, by simpa [World.setCell] using h.ld, fun i => ?_, ho, ?_, ?_, h.pk.only ho, fun i hi => ?_⟩
 ·rw [World.frozen?_setCell]
  exact h.fz i
 ·exact ownsRow_setCell_other h.oi (by simpa [Value.ownBlock] using fun e => h.ni e.symm) _
 ·exact ownsRow_setCell_other h.ow (by simpa [Value.ownBlock] using fun e => h.nw e.symm) _
 refine World.cell?_setCell_other _ _ _ _ ?_
 intro e
 injection e with _ e
 exact hi e.symm
theorem bB.dn (h : bB w0 w L f) (b : Bool) :
 bB w0 (w.setCell ⟨L.d, 3, none⟩ (.bool b)) L { f with aF := b } ∧ cE L w (w.setCell ⟨L.d, 3, none⟩ (.bool b)) := by
 obtain ⟨a1, a2, a3, a4, a5, a6, a7, a8⟩ := h.La 3 (.bool b) rfl
 exact ⟨⟨⟨h.ok.p1, h.ok.p2, h.ok.b1, h.ok.b2, h.ok.len, h.ok.wQ, h.ok.yz, h.ok.LK, h.ok.LJ⟩, a1, h.bd, a2, h.ni, h.nw, h.iw, (a8 0 oM).trans h.c0, (a8 1 oM).trans h.c1, (a8 2 oM).trans h.c2, World.cell?_setCell_same _ _ _ h.c3, (a8 4 oM).trans h.c4, (a8 5 oM).trans h.c5, a3, a5, a6, h.pc, h.pm, a7, fun b hE => Nat.lt_of_lt_of_le (h.eb b hE) a4.size⟩, a4⟩
theorem bB.fu (h : bB w0 w L f) (n : Int) (h1 : -1 ≤ n) (h2 : n < 9223372036854775808) :
 bB w0 (w.setCell ⟨L.d, 4, none⟩ (.int .i64 n)) L { f with be := n } ∧ cE L w (w.setCell ⟨L.d, 4, none⟩ (.int .i64 n)) := by
 obtain ⟨a1, a2, a3, a4, a5, a6, a7, a8⟩ := h.La 4 (.int .i64 n) rfl
 exact ⟨⟨⟨h.ok.p1, h.ok.p2, h.ok.b1, h.ok.b2, h.ok.len, h.ok.wQ, h.ok.yz, h1, h2⟩, a1, h.bd, a2, h.ni, h.nw, h.iw, (a8 0 oM).trans h.c0, (a8 1 oM).trans h.c1, (a8 2 oM).trans h.c2, (a8 3 oM).trans h.c3, World.cell?_setCell_same _ _ _ h.c4, (a8 5 oM).trans h.c5, a3, a5, a6, h.pc, h.pm, a7, fun b hE => Nat.lt_of_lt_of_le (h.eb b hE) a4.size⟩, a4⟩
theorem bB.pi (h : bB w0 w L f) (A : Option Addr) (c : Nat) (p : List Int) (hc : p.length ≤ c) (hm : c ≤ maxLen) (hp : Bytes p) (ha : gQ L w A (ag .u8 p)) :
 bB w0 (w.setCell ⟨L.d, 5, none⟩ (.slice A p.length c)) { L with Ap := A, cp := c } { f with az := p } ∧ cE L w (w.setCell ⟨L.d, 5, none⟩ (.slice A p.length c)) := by
 obtain ⟨a1, a2, a3, a4, a5, a6, a7, a8⟩ := h.La 5 (.slice A p.length c) rfl
 exact ⟨⟨⟨h.ok.p1, h.ok.p2, h.ok.b1, h.ok.b2, h.ok.len, h.ok.wQ, hp, h.ok.LK, h.ok.LJ⟩, a1, h.bd, a2, h.ni, h.nw, h.iw, (a8 0 oM).trans h.c0, (a8 1 oM).trans h.c1, (a8 2 oM).trans h.c2, (a8 3 oM).trans h.c3, (a8 4 oM).trans h.c4, World.cell?_setCell_same _ _ _ h.c5, a3, a5, a6, hc, hm, (ha.only a4).same rfl rfl rfl, fun b hE => Nat.lt_of_lt_of_le (h.eb b hE) a4.size⟩, a4⟩
theorem bB.tag (h : bB w0 w L f) (E : Nat → Prop) (hE : ∀ b, E b → b < w.heap.size) : bB w0 w { L with E := E } f :=
 ⟨h.ok, h.below, h.bd, h.ld, h.ni, h.nw, h.iw, h.c0, h.c1, h.c2, h.c3, h.c4, h.c5, h.fz, h.oi, h.ow, h.pc, h.pm, h.pk.same rfl rfl rfl, hE⟩
def cY (f : Fl) : Fl := if f.aF = true then { f with aF := false, be := -1 } else f
structure fC (f g : Fl) : Prop where
 pg : g.pg = f.pg
 img : g.img = f.img
 aq : g.aq = f.aq
 aF : g.aF = f.aF
 be : g.be = f.be
 az : f.be ≠ -1 → g.az = f.az
theorem fC.refl (f : Fl) : fC f f := ⟨rfl, rfl, rfl, rfl, rfl, fun _ => rfl⟩
theorem fC.at (h : fC f g) (p : Int) : lZ g p = lZ f p := by unfold lZ; rw [h.aF, h.aq, h.pg]
theorem fC.page (h : fC f g) (p : Nat) : aB g p = aB f p := by unfold aB; rw [h.img]
theorem fC.cut (h : fC f g) : (dx g).2 = (dx f).2 ∧ fC (dx f).1 (dx g).1 := by
 unfold dx
 rw [h.be]
 by_cases h0 : f.be = 0
 ·rw [iP h0, iP h0]
  exact ⟨rfl, h.pg, h.img, h.aq, rfl, rfl, h.az⟩
 rw [iN h0, iN h0]
 by_cases h1 : 0 < f.be
 ·rw [iP h1, iP h1]
  exact ⟨rfl, h.pg, h.img, h.aq, h.aF, rfl, fun _ => h.az oM⟩
 rw [iN h1, iN h1]
 exact ⟨rfl, h⟩
theorem CP (h : (dx f).2 = true) : f.be = 0 := by
 unfold dx at h
 split at h
 ·assumption
 split at h <;> simp at h
theorem fC.set (h : fC f g) (i : List Int) (w : List Int) : fC { f with img := i, aq := w } { g with img := i, aq := w } := ⟨h.pg, rfl, rfl, h.aF, h.be, h.az⟩
theorem fC.Vc (h : fC f g) (i : List Int) : fC { f with img := i } { g with img := i } := ⟨h.pg, rfl, h.aq, h.aF, h.be, h.az⟩
theorem fC.prog (h : fC f g) (p : Int) (b : List Int) : (bz g p b).2 = (bz f p b).2 ∧ fC (bz f p b).1 (bz g p b).1 := by
 unfold bz
 rw [h.at, h.page, h.cut.1, h.img]
 split
 ·exact ⟨rfl, h⟩
 split
 ·exact ⟨rfl, h⟩
 split
 ·exact ⟨rfl, h⟩
 split
 ·rename_i hc
  rw [h.az (by rw [CP hc]; omega)]
  exact ⟨rfl, h.cut.2.Vc _⟩
 exact ⟨rfl, h.cut.2.Vc _⟩
theorem fC.erase (h : fC f g) (b : Int) : (aT g b).2 = (aT f b).2 ∧ fC (aT f b).1 (aT g b).1 := by
 unfold aT
 rw [h.aF, h.aq, h.cut.1, h.img, h.pg]
 split
 ·exact ⟨rfl, h⟩
 split
 ·exact ⟨rfl, h⟩
 split
 ·rename_i hc
  rw [h.az (by rw [CP hc]; omega)]
  exact ⟨rfl, h.cut.2.set _ _⟩
 exact ⟨rfl, h.cut.2.set _ _⟩
theorem fC.fu (h : fC f g) (n : Int) (p : List Int) : fC (fM f n p) (fM g n p) := ⟨h.pg, h.img, h.aq, h.aF, rfl, fun _ => rfl⟩
theorem fC.start (h : fC f g) : fC (aR f) (cY g) := by
 unfold aR cY
 rw [h.aF]
 split
 ·exact ⟨h.pg, h.img, h.aq, rfl, rfl, fun hc => absurd rfl hc⟩
 exact h
def cn (X : Nat → Prop) (w : World) (A : Option Addr) (xs : List Value) : Prop :=
 xs ≠ [] → ∃ b off, A = some ⟨b, off, none⟩ ∧ b < w.heap.size ∧ ¬ X b ∧ ∀ j u, xs[j]? = some u → w.cell? ⟨b, off + j, none⟩ = some u
theorem cn.rd {xs : List Value} (h : cn X w A xs) : Rd w w.heap.size A xs := fun hx => by
 obtain ⟨b, off, e, aW, _, hc⟩ := h hx
 exact ⟨b, off, e, aW, hc⟩
theorem cn.below {xs : List Value} (h : cn X w A xs) (hb : bW w w') : cn X w' A xs := fun hx => by
 obtain ⟨b, off, e, aW, hX, hc⟩ := h hx
 exact ⟨b, off, e, Nat.lt_of_lt_of_le aW hb.size, hX, fun j u hu => (hb.cell (p := ⟨b, off + j, none⟩) aW).trans (hc j u hu)⟩
theorem cn.only {xs : List Value} (h : cn X w A xs) (hX : X L.d ∧ X L.gi ∧ X L.gw) (k : cE L w w') : cn X w' A xs := fun hx => by
 obtain ⟨b, off, e, aW, hn, hc⟩ := h hx
 exact ⟨b, off, e, Nat.lt_of_lt_of_le aW k.size, hn, fun j u hu => (cell_of_block (k.block b aW (fun e => hn (e ▸ hX.1)) (fun e => hn (e ▸ hX.2.1)) (fun e => hn (e ▸ hX.2.2)))).trans (hc j u hu)⟩
theorem cn.new {xs : List Value} {N e : Nat} (hX : ∀ b, X b → b < N) (hN : N ≤ w.heap.size) (hn : xs.length = n) (ho : w'.ownsRow w.heap.size e 1 (.slice A n c) n xs) : cn X w' A xs := fun hx => by
 obtain ⟨A', c', hv, _, _, hg⟩ := a9 ho
 obtain ⟨A2, c2, jB, _, _, hr⟩ := bL ho
 injection hv with hv _ _
 injection jB with jB _ _
 subst hv
 subst jB
 have Ck : 0 < n := by
  rw [← hn]
  exact List.length_pos_iff.2 hx
 obtain ⟨g, rfl, Uj, aW⟩ := hg Ck
 obtain ⟨b, off, he, hb, hc⟩ := hr hx
 have he' : b = g ∧ off = 0 := by
  injection he with he
  injection he with h1 h2
  exact ⟨h1.symm, h2.symm⟩
 obtain ⟨rfl, rfl⟩ := he'
 exact ⟨b, 0, rfl, aW, fun h => by have := hX b h; omega, hc⟩
theorem cn.of {xs : List Value} (h : Rd w B A xs) (hB : B ≤ w.heap.size) (hX : ∀ b, X b → B ≤ b) : cn X w A xs := fun hx => by
 obtain ⟨b, off, e, aW, hc⟩ := h hx
 exact ⟨b, off, e, Nat.lt_of_lt_of_le aW hB, fun hx => by have := hX b hx; omega, hc⟩
theorem cn.apart {xs : List Value} (h : cn X w A xs) (hX : X L.d ∧ X L.gi ∧ X L.gw) : gQ L w A xs := fun hx => by
 obtain ⟨b, off, e, aW, hn, hc⟩ := h hx
 exact ⟨b, off, e, aW, fun e => hn (e ▸ hX.1), fun e => hn (e ▸ hX.2.1), fun e => hn (e ▸ hX.2.2), hc⟩
theorem cn.nil : cn X w A [] := fun h => absurd rfl h
structure Rc where
 A : Option Addr
 c : Nat
 B : Option Addr
 d : Nat
 P : Option Addr
 r : Nat
def Rc.l (x : Rc) (g : Fl) : List Value := [.slice x.A g.img.length x.c, .int .i64 g.pg, .slice x.B g.aq.length x.d, .bool g.aF, .int .i64 g.be, .slice x.P g.az.length x.r]
abbrev Rc.v (x : Rc) (g : Fl) : Value := .agg #[.slice x.A g.img.length x.c, .int .i64 g.pg, .slice x.B g.aq.length x.d, .bool g.aF, .int .i64 g.be, .slice x.P g.az.length x.r]
structure cf (X : Nat → Prop) (w : World) (x : Rc) (g : Fl) : Prop where
 ok : g.ok
 a : cn X w x.A (ag .u8 g.img)
 a1 : g.img.length ≤ x.c
 a2 : x.c ≤ maxLen
 b : cn X w x.B (aw g.aq)
 b1 : g.aq.length ≤ x.d
 b2 : x.d ≤ maxLen
 p : cn X w x.P (ag .u8 g.az)
 p1 : g.az.length ≤ x.r
 p2 : x.r ≤ maxLen
theorem cf.below {x : Rc} (h : cf X w x g) (hb : bW w w') : cf X w' x g :=
 ⟨h.ok, h.a.below hb, h.a1, h.a2, h.b.below hb, h.b1, h.b2, h.p.below hb, h.p1, h.p2⟩
theorem cf.only {x : Rc} (h : cf X w x g) (hX : X L.d ∧ X L.gi ∧ X L.gw) (k : cE L w w') : cf X w' x g :=
 ⟨h.ok, h.a.only hX k, h.a1, h.a2, h.b.only hX k, h.b1, h.b2, h.p.only hX k, h.p1, h.p2⟩
theorem cf.lE {x : Rc} (h : cf X w x g) : g.img.length ≤ 65536 := by
 rw [h.ok.len]
 have := Nat.mul_le_mul h.ok.b2 h.ok.p2
 omega
theorem cf.put {x : Rc} (h : cf X w x g) (dn : Bool) (fu : Int) (h1 : -1 ≤ fu) (h2 : fu < 9223372036854775808) : cf X w x { g with aF := dn, be := fu } :=
 ⟨⟨h.ok.p1, h.ok.p2, h.ok.b1, h.ok.b2, h.ok.len, h.ok.wQ, h.ok.yz, h1, h2⟩, h.a, h.a1, h.a2, h.b, h.b1, h.b2, h.p, h.p1, h.p2⟩
def uv (x : Int) : Int := 8 - (x % 2 + x / 2 % 2 + x / 4 % 2 + x / 8 % 2 + x / 16 % 2 + x / 32 % 2 + x / 64 % 2 + x / 128 % 2)
def cr (b : List Int) : Int := b.foldl (fun n x => n + uv x) 0
def eN (b : List Int) : Int := b.foldl (fun n x => (n * 256 + x) % 18446744073709551616) 0
def eM (n : Int) (m : Nat) : List Int := (List.range m).map fun i => n / 256 ^ (m - 1 - i) % 256
def l4 (v : Int) : Int := IntKind.u64.wrap v
theorem wX (v : Int) : l4 v = v % 18446744073709551616 := by simp [l4, IntKind.wrap, IntKind.bits, IntKind.signed]
def cO (n : Nat) : Nat := (n + 5) / 6
def pC (seq : Int) (n k : Nat) : List Int := [(k : Int), (n : Int)] ++ eM (l4 seq) 6
def la (bc : List Int) (k i : Nat) : List Int := match bc[6 * k + i]? with | some v => eM (l4 v) 8 | none => List.replicate 8 0
def fI (seq : Int) (bc : List Int) (k i : Nat) : List Int :=
 pC seq bc.length k ++ (List.range i).flatMap (la bc k) ++ List.replicate (8 * (6 - i)) 0 ++ List.replicate 6 0
def fH (seq : Int) (bc : List Int) (k : Nat) : List Int := fI seq bc k 6
def eL (seq : Int) (bc : List Int) (k : Nat) : List Int := fH seq bc k ++ eM (cr (fH seq bc k)) 2
def fX (seq : Int) (n : Nat) : Int := if seq < 1 ∨ 1099511627776 < seq ∨ n < 1 ∨ 48 < n then 3 else 0
def dS (seq : Int) (bc : List Int) : List (List Int) := (List.range (cO bc.length)).map (eL seq bc)
def du (p : List Int) : Bool := decide (p.length = 64 ∧ eN (p.drop 62) = cr (p.take 62))
def zb (x : Int) : Int := IntKind.i64.wrap x
def lq (bZ : List (List Int)) (i : Nat) : Int := zb (eN (((bZ[i / 6]?.getD []).drop (8 + 8 * (i % 6))).take 8))
def ff (bZ : List (List Int)) : Int × List Int × Int :=
 if bZ.length < 1 ∨ 8 < bZ.length then (0, [], 11) else if bZ.all du = false then (0, [], 19) else
 let p0 := bZ[0]?.getD []
 let n := p0[1]?.getD 0
 let s := zb (eN ((p0.drop 2).take 6))
 if n < 1 ∨ 48 < n ∨ cO n.toNat ≠ bZ.length then (0, [], 2) else
 let v := (List.range n.toNat).map (lq bZ)
 if fX s v.length ≠ 0 ∨ dS s v ≠ bZ then (0, [], 2) else (s, v, 0)
theorem BA {P : List Int → Prop} (h0 : P []) (h1 : ∀ l x, P l → P (l ++ [x])) (l : List Int) : P l := by
 have key : ∀ m : List Int, P m.reverse := by
  intro m
  induction m with
  | nil => exact h0
  | cons a m ih => rw [List.reverse_cons]; exact h1 _ _ ih
 have := key l.reverse
 rwa [List.reverse_reverse] at this
theorem se : 0 ≤ uv x ∧ uv x ≤ 8 := by unfold uv; omega
theorem pI (b : List Int) (x : Int) : cr (b ++ [x]) = cr b + uv x := by simp [cr]
theorem qL (b : List Int) (x : Int) : eN (b ++ [x]) = (eN b * 256 + x) % 18446744073709551616 := by simp [eN]
theorem gm (b : List Int) : 0 ≤ cr b ∧ cr b ≤ 8 * b.length := by
 refine BA (P := fun b => 0 ≤ cr b ∧ cr b ≤ 8 * b.length) (by simp [cr]) (fun b x ih => ?_) b
 rw [pI, List.length_append]
 have := se (x := x)
 simp only [List.length_cons, List.length_nil]
 omega
theorem yH (b : List Int) : 0 ≤ eN b ∧ eN b < 18446744073709551616 := by
 refine BA (P := fun b => 0 ≤ eN b ∧ eN b < 18446744073709551616) (by simp [eN]) (fun b x ih => ?_) b
 rw [qL]
 omega
theorem cK (n : Int) (m : Nat) : (eM n m).length = m := by simp [eM]
theorem pO (n : Int) (m : Nat) : Bytes (eM n m) := by
 intro x hx
 simp only [eM, List.mem_map] at hx
 obtain ⟨i, _, rfl⟩ := hx
 omega
theorem oR (v : Int) : 0 ≤ l4 v ∧ l4 v < 18446744073709551616 := by rw [wX]; omega
theorem mY (s : Int) (n k : Nat) : (pC s n k).length = 8 := by simp [pC, cK]
theorem tB (v : List Int) (k i : Nat) : (la v k i).length = 8 := by
 unfold la
 split
 ·exact cK _ _
 simp
theorem DM (v : List Int) (k i : Nat) : Bytes (la v k i) := by
 unfold la
 split
 ·exact pO _ _
 intro x hx
 rw [List.mem_replicate] at hx
 omega
theorem LM (v : List Int) (k i : Nat) : ((List.range i).flatMap (la v k)).length = 8 * i := by
 rw [lI _ 8 (fun j => tB v k j), List.length_range]; omega
theorem rA (s : Int) (v : List Int) (k i : Nat) (h : i ≤ 6) : (fI s v k i).length = 62 := by
 unfold fI
 simp only [List.length_append, mY, LM, List.length_replicate]
 omega
theorem ep (s : Int) (v : List Int) (k : Nat) : (fH s v k).length = 62 := rA s v k 6 cV
theorem dO (s : Int) (v : List Int) (k : Nat) : (eL s v k).length = 64 := by
 unfold eL
 rw [List.length_append, ep, cK]
theorem iW {a : List Int} (ha : Bytes a) (hb : Bytes b) : Bytes (a ++ b) := by
 intro x hx
 rcases List.mem_append.1 hx with h | h
 ·exact ha x h
 exact hb x h
theorem wP (n : Nat) : Bytes (List.replicate n 0) := by
 intro x hx
 rw [List.mem_replicate] at hx
 omega
theorem oh (s : Int) (v : List Int) (k i : Nat) (hk : k < 256) (hv : v.length < 256) : Bytes (fI s v k i) := by
 unfold fI pC
 refine iW (iW (iW (iW ?_ (pO _ _)) ?_) (wP _)) (wP _)
 ·intro x hx
  simp only [List.mem_cons, List.not_mem_nil, or_false] at hx
  omega
 intro x hx
 rw [List.mem_flatMap] at hx
 obtain ⟨j, _, hj⟩ := hx
 exact DM v k j x hj
theorem lC (s : Int) (v : List Int) (k : Nat) (hk : k < 256) (hv : v.length < 256) : Bytes (eL s v k) :=
 iW (oh s v k 6 hk hv) (pO _ _)
theorem N8 (a b c d : List Int) (h : b.length = d.length) : lay (a ++ b ++ c) a.length d = a ++ d ++ c := by
 unfold lay
 rw [List.append_assoc a b c, List.take_left', ← h, List.drop_append]
 ·simp
 rfl
theorem Ei (m : Nat) (a b c d : List Int) (hm : a.length = m) (h : b.length = d.length) : lay (a ++ b ++ c) m d = a ++ d ++ c := by
 rw [← hm]; exact N8 a b c d h
theorem Mm (s : Int) (v : List Int) (k i : Nat) (x : Int) (hi : i < 6) (hx : v[6 * k + i]? = some x) (t : List Int) :
 lay (fI s v k i ++ t) (8 + 8 * i) (eM (l4 x) 8) = fI s v k (i + 1) ++ t := by
 have e1 : la v k i = eM (l4 x) 8 := by unfold la; rw [hx]
 have e2 : List.replicate (8 * (6 - i)) (0 : Int) = List.replicate 8 0 ++ List.replicate (8 * (6 - (i + 1))) 0 := by
  rw [List.replicate_append_replicate]; congr 1; omega
 have e3 : fI s v k i ++ t = (pC s v.length k ++ (List.range i).flatMap (la v k)) ++ List.replicate 8 0 ++ (List.replicate (8 * (6 - (i + 1))) 0 ++ List.replicate 6 0 ++ t) := by
  unfold fI; rw [e2]; simp only [List.append_assoc]
 rw [e3, Ei _ _ _ _ _ (by rw [List.length_append, mY, LM]) (by rw [cK]; simp)]
 unfold fI
 rw [List.range_succ, List.flatMap_append, List.flatMap_singleton, e1]
 simp only [List.append_assoc]
theorem I8 (s : Int) (v : List Int) (k i : Nat) (hi : i ≤ 6) (hx : v.length ≤ 6 * k + i) : fI s v k i = fH s v k := by
 have hz : ∀ j, i ≤ j → la v k j = List.replicate 8 0 := fun j hj => by
  unfold la
  rw [List.getElem?_eq_none oM]
 have key : ∀ d, i + d ≤ 6 → fI s v k i = fI s v k (i + d) := by
  intro d
  induction d with
  | zero => intro _; rfl
  | succ d ih =>
   intro hd
   rw [ih oM]
   unfold fI
   have e2 : List.replicate (8 * (6 - (i + d))) (0 : Int) = List.replicate 8 0 ++ List.replicate (8 * (6 - (i + (d + 1)))) 0 := by
    rw [List.replicate_append_replicate]; congr 1; omega
   rw [e2, show i + (d + 1) = (i + d) + 1 by omega, List.range_succ, List.flatMap_append, List.flatMap_singleton, hz _ oM]
   simp only [List.append_assoc]
 have := key (6 - i) oM
 rw [this]
 unfold fH
 congr 1
 omega
theorem Lw (s : Int) (v : List Int) (k : Nat) : lay ([(k : Int), (v.length : Int)] ++ List.replicate 62 0) 2 (eM (l4 s) 6) = fI s v k 0 ++ [0, 0] := by
 have e : List.replicate 62 (0 : Int) = List.replicate 6 0 ++ List.replicate 56 0 := by rw [List.replicate_append_replicate]
 rw [e, ← List.append_assoc, Ei 2 _ _ _ _ rfl (by rw [cK]; simp)]
 unfold fI pC
 simp only [List.range_zero, List.flatMap_nil, List.append_nil, List.append_assoc]
 rfl
theorem LL (s : Int) (v : List Int) (k : Nat) : lay (fH s v k ++ [0, 0]) 62 (eM (cr (fH s v k)) 2) = eL s v k := by
 have := Ei 62 (fH s v k) [0, 0] [] (eM (cr (fH s v k)) 2) (ep s v k) (by rw [cK]; rfl)
 rw [List.append_nil, List.append_nil] at this
 exact this
structure eB where
 lo : Int
 hi : Int
 df : Int
 deriving Inhabited
def eB.cells (p : eB) : List Value := [.int .i64 p.lo, .int .i64 p.hi, .int .i64 p.df]
def dH (x : Int) : Prop := -9223372036854775808 ≤ x ∧ x < 9223372036854775808
structure eB.ok (p : eB) : Prop where
 l : dH p.lo
 h : dH p.hi
 d : dH p.df
structure St where
 first : Nat
 aa : Nat
 ax : List eB
 an : List Int
 aj : List Int
 seq : Int
 block : Nat
 av : Int
 af : Bool
 bZ : List (List Int)
 values : List Int
 bH : Nat
 bg : Nat
 done : Nat
 erase : Bool
 bt : Bool
 deriving Inhabited
variable {s : St}
def St.k (s : St) : Nat := cO s.ax.length
def bm (s : St) (f : Fl) : Nat := f.pg / s.k
def aG (s : St) (f : Fl) (b j : Nat) : Nat := (s.first + b) * f.pg + j * s.k
def bT (f : Fl) (a n : Nat) : List (List Int) := (List.range n).map fun i => aB f (a + i)
def cG (f : Fl) (a n : Nat) : Bool := (List.range n).all fun i => ch (aB f (a + i))
def iy (p : eB) (x : Int) : Bool := decide (p.lo ≤ x ∧ x ≤ p.hi)
def ey (p : eB) (x : Int) : Int := if iy p x = true then x else p.df
def ez (sp : List eB) (v : List Int) : List Int := List.zipWith ey sp v
def cJ (f : Fl) (first aa : Int) (sp : List eB) : Int :=
 if f.aF = true then 20 else if aa < 2 ∨ 16 < aa then 3 else if first < 0 ∨ (f.aq.length : Int) - aa < first then 10 else
 if sp.length < 1 ∨ 48 < sp.length then 3 else if sp.any (fun p => decide (p.df < p.lo ∨ p.hi < p.df)) = true then 3 else if f.pg < cO sp.length then 11 else 0
def dM (first aa : Nat) (sp : List eB) : St := ⟨first, aa, sp, sp.map eB.df, [], 0, 0, -1, false, [], [], 0, 0, 0, false, false⟩
def cT (f : Fl) (s : St) (b j : Nat) : St :=
 let d := ff (bT f (aG s f b j) s.k)
 if d.2.2 ≠ 0 ∨ d.2.1.length ≠ s.ax.length ∨ d.1 ≤ s.seq then s else { s with seq := d.1, block := b, av := j, an := ez s.ax d.2.1 }
def ea (f : Fl) (b : Nat) (s : St) (n : Nat) : St := (List.range n).foldl (fun s j => cT f s b j) s
def cS (f : Fl) (n : Nat) (s : St) (m : Nat) : St := (List.range m).foldl (fun s b => ea f b s n) s
def aJ (f : Fl) (first aa : Nat) (sp : List eB) : St :=
 let s := cS f (f.pg / cO sp.length) (dM first aa sp) aa
 { s with aj := s.an }
def gf (s : St) (i v : Int) : Int :=
 if s.af = true then 20 else if i < 0 ∨ (s.ax.length : Int) ≤ i then 10 else if iy (s.ax[i.toNat]?.getD default) v = false then 3 else 0
def aV (s : St) (i v : Int) : St := if gf s i v = 0 then { s with aj := s.aj.set i.toNat v } else s
def jW (s : St) (f : Fl) : Option Nat := (List.range (bm s f)).find? fun j => decide (s.av < j) && cG f (aG s f s.block j) s.k
def bj (s : St) (f : Fl) : St := match jW s f with
 | some j => { s with bH := s.block, bg := j, erase := false }
 | none => { s with bH := (s.block + 1) % s.aa, bg := 0, erase := !cG f (aG s f ((s.block + 1) % s.aa) 0) f.pg }
def ga (s : St) (f : Fl) : St := { s with af := s.af || f.aF }
def aO (s : St) (f : Fl) : Int :=
 if (s.af || f.aF) = true then 20 else if s.bt = true then 14 else if s.aj = s.an then 12 else fX (s.seq + 1) s.aj.length
def aZ (s : St) (f : Fl) : St :=
 if aO s f = 0 then { bj (ga s f) f with bZ := dS (s.seq + 1) s.aj, values := s.aj, done := 0, bt := true } else ga s f
def eV (s : St) (f : Fl) : Fl × Int :=
 if s.erase = true then aT f ((s.first : Int) + s.bH) else bz f ((aG s f s.bH s.bg + s.done : Nat) : Int) (s.bZ[s.done]?.getD [])
def ct (s : St) : St := if s.erase = true then { s with erase := false } else { s with done := s.done + 1 }
def kO (s : St) : St := { s with seq := s.seq + 1, block := s.bH, av := s.bg, an := s.values, bt := false }
def aI (s : St) (f : Fl) : St × Fl × Bool × Int :=
 if s.af = true then (s, f, false, 20) else if s.bt = false then (s, f, false, 12) else
 if (eV s f).2 ≠ 0 then ({ ct s with af := true }, (eV s f).1, false, 20) else
 if (ct s).done < (ct s).bZ.length then (ct s, (eV s f).1, false, 0) else (kO (ct s), (eV s f).1, true, 0)
def iR (s : St) : Nat := (s.bZ.length - s.done) + (if s.erase = true then 1 else 0)
def iZ : Nat → St → Fl → St × Fl × Int
 | 0, s, f => (s, f, 0)
 | n + 1, s, f => let q := aI s f; if q.2.2.1 = true ∨ q.2.2.2 ≠ 0 then (q.1, q.2.1, q.2.2.2) else iZ n q.1 q.2.1
def aA (s : St) (f : Fl) : St × Fl × Int := if aO s f ≠ 0 then (aZ s f, f, aO s f) else iZ 10 (aZ s f) f
structure bD (f : Fl) (s : St) : Prop where
 n1 : 1 ≤ s.ax.length
 n2 : s.ax.length ≤ 48
 sp : ∀ p ∈ s.ax, p.ok
 b1 : 2 ≤ s.aa
 b2 : s.aa ≤ 16
 fb : s.first + s.aa ≤ f.aq.length
 kp : s.k ≤ f.pg
 sl : s.an.length = s.ax.length
 tl : s.aj.length = s.ax.length
 vl : s.values.length = s.ax.length ∨ s.bt = false
 si : ∀ x ∈ s.an, dH x
 ti : ∀ x ∈ s.aj, dH x
 vi : ∀ x ∈ s.values, dH x
 q1 : 0 ≤ s.seq
 q2 : s.seq ≤ 1099511627776
 bl : s.block < s.aa
 s1 : -1 ≤ s.av
 s2 : s.av < (bm s f : Nat)
 pl : s.bt = true → s.bZ.length = s.k
 pb : ∀ p ∈ s.bZ, p.length = 64 ∧ Bytes p
 tb : s.bH < s.aa
 ts : s.bg < bm s f
 dn : s.bt = true → s.af = false → s.done < s.k
 dk : s.done ≤ s.k
 qb : s.bt = true → s.af = false → s.seq < 1099511627776
theorem jZ (h : 1 ≤ n) : 1 ≤ cO n := by unfold cO; omega
theorem jL (h : n ≤ 48) : cO n ≤ 8 := by unfold cO; omega
theorem bD.k1 (h : bD f s) : 1 ≤ s.k := jZ h.n1
theorem bD.k8 (h : bD f s) : s.k ≤ 8 := jL h.n2
theorem bD.sl1 (h : bD f s) : 1 ≤ bm s f := by
 unfold bm
 exact (Nat.le_div_iff_mul_le h.k1).2 (by have := h.kp; omega)
theorem bD.qD (h : bD f s) (hj : j < bm s f) : j * s.k + s.k ≤ f.pg := by
 have h1 : (j + 1) * s.k ≤ bm s f * s.k := Nat.mul_le_mul_right _ hj
 have h2 : bm s f * s.k ≤ f.pg := Nat.div_mul_le_self _ _
 rw [Nat.add_mul, Nat.one_mul] at h1
 omega
theorem bD.oD (h : bD f s) {b : Nat} (hb : b < s.aa) (hj : j < bm s f) : aG s f b j + s.k ≤ f.aq.length * f.pg := by
 have h1 := h.qD hj
 have h2 : (s.first + b + 1) * f.pg ≤ f.aq.length * f.pg := Nat.mul_le_mul_right _ (by have := h.fb; omega)
 rw [Nat.add_mul (s.first + b), Nat.one_mul] at h2
 unfold aG
 omega
theorem bD.wT (h : bD f s) {b : Nat} (hb : b < s.aa) : aG s f b 0 + f.pg ≤ f.aq.length * f.pg := by
 have h2 : (s.first + b + 1) * f.pg ≤ f.aq.length * f.pg := Nat.mul_le_mul_right _ (by have := h.fb; omega)
 rw [Nat.add_mul (s.first + b), Nat.one_mul] at h2
 unfold aG
 omega
structure eo (f g : Fl) : Prop where
 p : g.pg = f.pg
 w : g.aq.length = f.aq.length
theorem eo.refl (f : Fl) : eo f f := ⟨rfl, rfl⟩
theorem eo.trans {h : Fl} (a : eo f g) (b : eo g h) : eo f h := ⟨b.p.trans a.p, b.w.trans a.w⟩
theorem jr (f : Fl) : eo f (dx f).1 := ⟨(dW f).1, by rw [(dW f).2.2.1]⟩
theorem jz (f : Fl) (p : Int) (b : List Int) : eo f (bz f p b).1 := by
 unfold bz
 split
 ·exact .refl f
 split
 ·exact .refl f
 split
 ·exact .refl f
 split
 ·exact ⟨(jr f).p, (jr f).w⟩
 exact ⟨(jr f).p, (jr f).w⟩
theorem iV (f : Fl) (b : Int) : eo f (aT f b).1 := by
 unfold aT
 split
 ·exact .refl f
 split
 ·exact .refl f
 split
 ·exact ⟨(jr f).p, by simp [dz]⟩
 exact ⟨(jr f).p, by simp [dz]⟩
theorem kq (s : St) (f : Fl) : eo f (eV s f).1 := by
 unfold eV
 split
 ·exact iV _ _
 exact jz _ _ _
theorem CA (f : Fl) (n : Int) (p : List Int) : eo f (fM f n p) := ⟨rfl, rfl⟩
theorem eo.BC (h : eo f g) (s : St) : bm s g = bm s f := by unfold bm; rw [h.p]
theorem eo.aG (h : eo f g) (s : St) (b j : Nat) : YtjdknddnanopaaaGreat.aG s g b j = YtjdknddnanopaaaGreat.aG s f b j := by unfold YtjdknddnanopaaaGreat.aG; rw [h.p]
theorem bD.shape (h : bD f s) (hs : eo f g) : bD g s :=
 ⟨h.n1, h.n2, h.sp, h.b1, h.b2, by rw [hs.w]; exact h.fb, by rw [hs.p]; exact h.kp, h.sl, h.tl, h.vl, h.si, h.ti, h.vi, h.q1, h.q2, h.bl, h.s1, by rw [hs.BC]; exact h.s2, h.pl, h.pb, h.tb, by rw [hs.BC]; exact h.ts, h.dn, h.dk, h.qb⟩
theorem eH (h : bD f s) {i v : Int} (hv : dH v) : bD f (aV s i v) := by
 unfold aV
 split
 ·exact ⟨h.n1, h.n2, h.sp, h.b1, h.b2, h.fb, h.kp, h.sl, by simpa using h.tl, h.vl, h.si, (fun x hx => by
   rcases List.mem_or_eq_of_mem_set hx with g | g
   ·exact h.ti x g
   rw [g]; exact hv), h.vi, h.q1, h.q2, h.bl, h.s1, h.s2, h.pl, h.pb, h.tb, h.ts, h.dn, h.dk, h.qb⟩
 exact h
theorem Aq (h : bD f s) : bD f (ga s f) :=
 ⟨h.n1, h.n2, h.sp, h.b1, h.b2, h.fb, h.kp, h.sl, h.tl, h.vl, h.si, h.ti, h.vi, h.q1, h.q2, h.bl, h.s1, h.s2, h.pl, h.pb, h.tb, h.ts, (fun a b => h.dn a (by
  have b' : (s.af || f.aF) = false := b
  simp at b'
  exact b'.1)), h.dk, (fun a b => h.qb a (by
  have b' : (s.af || f.aF) = false := b
  simp at b'
  exact b'.1))⟩
theorem wu (h : jW s f = some j) : j < bm s f ∧ s.av < j ∧ cG f (aG s f s.block j) s.k = true := by
 unfold jW at h
 have h1 := List.mem_of_find?_eq_some h
 have h2 := List.find?_some h
 simp at h1 h2
 exact ⟨h1, h2.1, h2.2⟩
theorem Ai {seq : Int} {v : List Int} (hv : v.length < 256) : ∀ p ∈ dS seq v, p.length = 64 ∧ Bytes p := by
 intro p hp
 unfold dS at hp
 rw [List.mem_map] at hp
 obtain ⟨k, hk, rfl⟩ := hp
 rw [List.mem_range] at hk
 exact ⟨dO _ _ _, lC _ _ _ (by unfold cO at hk; omega) hv⟩
theorem jE (h : aO s f = 0) : s.af = false ∧ f.aF = false ∧ s.bt = false ∧ s.aj ≠ s.an ∧ fX (s.seq + 1) s.aj.length = 0 := by
 unfold aO at h
 split at h
 ·cases h
 split at h
 ·cases h
 split at h
 ·cases h
 rename_i a b c
 simp at a b
 exact ⟨a.1, a.2, b, c, h⟩
theorem ks (h : fX q n = 0) : 1 ≤ q ∧ q ≤ 1099511627776 ∧ 1 ≤ n ∧ n ≤ 48 := by
 unfold fX at h
 split at h
 ·cases h
 omega
theorem Hs (h : bD f s) : bD f (bj s f) := by
 unfold bj
 split
 ·rename_i j hj
  obtain ⟨a, b, c⟩ := wu hj
  exact ⟨h.n1, h.n2, h.sp, h.b1, h.b2, h.fb, h.kp, h.sl, h.tl, h.vl, h.si, h.ti, h.vi, h.q1, h.q2, h.bl, h.s1, h.s2, h.pl, h.pb, h.bl, a, h.dn, h.dk, h.qb⟩
 exact ⟨h.n1, h.n2, h.sp, h.b1, h.b2, h.fb, h.kp, h.sl, h.tl, h.vl, h.si, h.ti, h.vi, h.q1, h.q2, h.bl, h.s1, h.s2, h.pl, h.pb, Nat.mod_lt _ (by have := h.b1; omega), h.sl1, h.dn, h.dk, h.qb⟩
theorem wE (seq : Int) (v : List Int) : (dS seq v).length = cO v.length := by simp [dS]
theorem mx (h : bD f s) : bD f (aZ s f) := by
 unfold aZ
 split
 ·rename_i h0
  obtain ⟨a, b, c, d, e⟩ := jE h0
  obtain ⟨e1, e2, e3, e4⟩ := ks e
  have g := Hs (Aq h)
  obtain ⟨s1, gC⟩ := ex (bj (ga s f) f)
  have gT : s1.ax = s.ax := by rw [← gC]; unfold bj ga; simp only; split <;> rfl
  have hq : s1.seq = s.seq := by rw [← gC]; unfold bj ga; simp only; split <;> rfl
  rw [gC] at g ⊢
  have hk : cO s.aj.length = s1.k := by rw [h.tl]; unfold St.k; rw [gT]
  exact ⟨g.n1, g.n2, g.sp, g.b1, g.b2, g.fb, g.kp, g.sl, g.tl, .inl (by rw [gT]; exact h.tl), g.si, g.ti, h.ti, g.q1, g.q2, g.bl, g.s1, g.s2, (fun _ => by
   rw [wE]; exact hk), Ai oM, g.tb, g.ts, (fun _ _ => g.k1), Nat.zero_le _, (fun _ _ => by simp only [hq]; omega)⟩
 exact Aq h
theorem Kn (h : bD f s) (hb : s.bt = true) (hr : s.af = false) :
 (ct s).done ≤ s.k ∧ bD f { ct s with af := true } ∧ ((ct s).done < (ct s).bZ.length → bD f (ct s)) ∧ bD f (kO (ct s)) := by
 have hd := h.dn hb hr
 have hp := h.pl hb
 have hq := h.qb hb hr
 have hv := h.vl
 rw [hb] at hv
 simp at hv
 unfold ct
 split
 ·exact ⟨h.dk, ⟨h.n1, h.n2, h.sp, h.b1, h.b2, h.fb, h.kp, h.sl, h.tl, h.vl, h.si, h.ti, h.vi, h.q1, h.q2, h.bl, h.s1, h.s2, h.pl, h.pb, h.tb, h.ts, (fun _ b => by cases b), h.dk, (fun _ b => by cases b)⟩,
   fun _ => ⟨h.n1, h.n2, h.sp, h.b1, h.b2, h.fb, h.kp, h.sl, h.tl, h.vl, h.si, h.ti, h.vi, h.q1, h.q2, h.bl, h.s1, h.s2, h.pl, h.pb, h.tb, h.ts, h.dn, h.dk, h.qb⟩,
   ⟨h.n1, h.n2, h.sp, h.b1, h.b2, h.fb, h.kp, hv, h.tl, .inr rfl, h.vi, h.ti, h.vi, by simp only [kO]; have := h.q1; omega, by simp only [kO]; omega, h.tb, by simp only [kO]; omega, by simp only [kO]; exact Int.ofNat_lt.2 h.ts, (fun b => by cases b), h.pb, h.tb, h.ts, (fun b => by cases b), h.dk, (fun b => by cases b)⟩⟩
 exact ⟨by simp only; omega, ⟨h.n1, h.n2, h.sp, h.b1, h.b2, h.fb, h.kp, h.sl, h.tl, h.vl, h.si, h.ti, h.vi, h.q1, h.q2, h.bl, h.s1, h.s2, h.pl, h.pb, h.tb, h.ts, (fun _ b => by cases b), by simp only; exact hd, (fun _ b => by cases b)⟩,
  fun aW => ⟨h.n1, h.n2, h.sp, h.b1, h.b2, h.fb, h.kp, h.sl, h.tl, h.vl, h.si, h.ti, h.vi, h.q1, h.q2, h.bl, h.s1, h.s2, h.pl, h.pb, h.tb, h.ts, (fun _ _ => by
   have hlt' : s.done + 1 < s.bZ.length := aW
   rw [hp] at hlt'
   exact hlt'), by simp only; exact hd, h.qb⟩,
  ⟨h.n1, h.n2, h.sp, h.b1, h.b2, h.fb, h.kp, hv, h.tl, .inr rfl, h.vi, h.ti, h.vi, by simp only [kO]; have := h.q1; omega, by simp only [kO]; omega, h.tb, by simp only [kO]; omega, by simp only [kO]; exact Int.ofNat_lt.2 h.ts, (fun b => by cases b), h.pb, h.tb, h.ts, (fun b => by cases b), by simp only [kO]; exact hd, (fun b => by cases b)⟩⟩
theorem mc (h : bD f s) : bD (aI s f).2.1 (aI s f).1 := by
 unfold aI
 split
 ·exact h
 split
 ·exact h
 rename_i h1 h2
 obtain ⟨_, a, b, c⟩ := Kn h (by simpa using h2) (by simpa using h1)
 split
 ·exact a.shape (kq s f)
 split
 ·rename_i h4
  exact (b h4).shape (kq s f)
 exact c.shape (kq s f)
theorem gq (s : St) (f : Fl) : eo f (aI s f).2.1 := by
 unfold aI
 split
 ·exact .refl f
 split
 ·exact .refl f
 split
 ·exact kq s f
 split
 ·exact kq s f
 exact kq s f
theorem oq (x m i : Nat) : x / 2 ^ i % 2 ≤ (x ||| m) / 2 ^ i % 2 := by
 have h := Nat.testBit_or x m i
 rw [Nat.testBit_eq_decide_div_mod_eq, Nat.testBit_eq_decide_div_mod_eq, Nat.testBit_eq_decide_div_mod_eq] at h
 by_cases h1 : x / 2 ^ i % 2 = 1
 ·rw [h1] at h ⊢
  simp at h
  omega
 omega
def dA (X i : Nat) : Nat := X / 2 ^ i % 2
theorem CX (X : Nat) (h : X < 256) : X = dA X 0 + 2 * dA X 1 + 4 * dA X 2 + 8 * dA X 3 + 16 * dA X 4 + 32 * dA X 5 + 64 * dA X 6 + 128 * dA X 7 := by
 have : ∀ X : Fin 256, X.val = dA X.val 0 + 2 * dA X.val 1 + 4 * dA X.val 2 + 8 * dA X.val 3 + 16 * dA X.val 4 + 32 * dA X.val 5 + 64 * dA X.val 6 + 128 * dA X.val 7 := by decide +kernel
 exact this ⟨X, h⟩
theorem FJ (X : Nat) (h : X < 256) : uv (X : Int) = 8 - ((dA X 0 + dA X 1 + dA X 2 + dA X 3 + dA X 4 + dA X 5 + dA X 6 + dA X 7 : Nat) : Int) := by
 have : ∀ X : Fin 256, uv (X.val : Int) = 8 - ((dA X.val 0 + dA X.val 1 + dA X.val 2 + dA X.val 3 + dA X.val 4 + dA X.val 5 + dA X.val 6 + dA X.val 7 : Nat) : Int) := by decide +kernel
 exact this ⟨X, h⟩
theorem pK {a b d : Nat} (h : a ≤ b) (k : c ≤ d) : a + c ≤ b + d ∧ (a + c = b + d → a = b ∧ c = d) := ⟨oM, fun e => ⟨oM, oM⟩⟩
theorem Br {m : Int} (hx : 0 ≤ x ∧ x < 256) (hm : 0 ≤ m ∧ m < 256) : uv (nv x m) ≤ uv x ∧ (uv (nv x m) = uv x → nv x m = x) ∧ x ≤ nv x m := by
 obtain ⟨X, rfl⟩ := Int.eq_ofNat_of_zero_le hx.1
 obtain ⟨M, rfl⟩ := Int.eq_ofNat_of_zero_le hm.1
 have e : nv (X : Int) (M : Int) = ((X ||| M : Nat) : Int) := u8_or_nat X M oM oM
 rw [e]
 have aW : X ||| M < 256 := Nat.or_lt_two_pow (n := 8) oM oM
 have hX : X < 256 := oM
 have h0 := oq X M 0
 have h1 := oq X M 1
 have h2 := oq X M 2
 have h3 := oq X M 3
 have h4 := oq X M 4
 have h5 := oq X M 5
 have h6 := oq X M 6
 have h7 := oq X M 7
 have hle : X ≤ X ||| M := Nat.left_le_or
 generalize X ||| M = Y at *
 rw [FJ X hX, FJ Y aW]
 have sX := CX X hX
 have sY := CX Y aW
 change dA X 0 ≤ dA Y 0 at h0
 change dA X 1 ≤ dA Y 1 at h1
 change dA X 2 ≤ dA Y 2 at h2
 change dA X 3 ≤ dA Y 3 at h3
 change dA X 4 ≤ dA Y 4 at h4
 change dA X 5 ≤ dA Y 5 at h5
 change dA X 6 ≤ dA Y 6 at h6
 change dA X 7 ≤ dA Y 7 at h7
 generalize dA X 0 = x0 at *
 generalize dA X 1 = x1 at *
 generalize dA X 2 = x2 at *
 generalize dA X 3 = x3 at *
 generalize dA X 4 = x4 at *
 generalize dA X 5 = x5 at *
 generalize dA X 6 = x6 at *
 generalize dA X 7 = x7 at *
 generalize dA Y 0 = y0 at *
 generalize dA Y 1 = y1 at *
 generalize dA Y 2 = y2 at *
 generalize dA Y 3 = y3 at *
 generalize dA Y 4 = y4 at *
 generalize dA Y 5 = y5 at *
 generalize dA Y 6 = y6 at *
 generalize dA Y 7 = y7 at *
 clear hx hm e
 obtain ⟨q1, g1⟩ := pK h0 h1
 obtain ⟨q2, g2⟩ := pK q1 h2
 obtain ⟨q3, g3⟩ := pK q2 h3
 obtain ⟨q4, g4⟩ := pK q3 h4
 obtain ⟨q5, g5⟩ := pK q4 h5
 obtain ⟨q6, g6⟩ := pK q5 h6
 obtain ⟨q7, g7⟩ := pK q6 h7
 refine ⟨by clear sX sY hX aW h0 h1 h2 h3 h4 h5 h6 h7 q1 q2 q3 q4 q5 q6 g1 g2 g3 g4 g5 g6 g7; omega, fun h => ?_, Int.ofNat_le.2 hle⟩
 have h' : x0 + x1 + x2 + x3 + x4 + x5 + x6 + x7 = y0 + y1 + y2 + y3 + y4 + y5 + y6 + y7 := by
  clear sX sY hX aW h0 h1 h2 h3 h4 h5 h6 h7 q1 q2 q3 q4 q5 q6 g1 g2 g3 g4 g5 g6 g7
  omega
 obtain ⟨k, e7⟩ := g7 h'
 obtain ⟨k, e6⟩ := g6 k
 obtain ⟨k, e5⟩ := g5 k
 obtain ⟨k, e4⟩ := g4 k
 obtain ⟨k, e3⟩ := g3 k
 obtain ⟨k, e2⟩ := g2 k
 obtain ⟨e0, e1⟩ := g1 k
 subst e0 e1 e2 e3 e4 e5 e6 e7
 rw [sX, sY]
theorem Bp (b : List Int) (n : Int) : b.foldl (fun n x => n + uv x) n = n + cr b := by
 induction b generalizing n with
 | nil => simp [cr]
 | cons x b ih =>
  have h1 := ih (n + uv x)
  have h2 := ih (0 + uv x)
  rw [List.foldl_cons, h1]
  show _ = n + (x :: b).foldl (fun n x => n + uv x) 0
  rw [List.foldl_cons, h2]
  omega
theorem vc (x : Int) (b : List Int) : cr (x :: b) = uv x + cr b := by
 show (x :: b).foldl (fun n x => n + uv x) 0 = _
 rw [List.foldl_cons, Bp]
 omega
theorem vH (m : List Int) (n i : Nat) : dj (m.drop n) i = dj m (n + i) := by
 unfold dj
 rw [List.getElem?_drop]
theorem sm (x : Int) (b m : List Int) : eK (x :: b) m = nv x (dj m 0) :: eK b (m.drop 1) := by
 unfold eK
 rw [List.mapIdx_cons]
 congr 1
 congr 1
 funext i y
 rw [vH, Nat.add_comm]
theorem eh (h : Bytes m) (n : Nat) : Bytes (m.drop n) := fun x hx => h x (List.mem_of_mem_drop hx)
theorem gA (h : Bytes m) (n : Nat) : Bytes (m.take n) := fun x hx => h x (List.mem_of_mem_take hx)
theorem DI (hb : Bytes b) (hm : Bytes m) : cr (eK b m) ≤ cr b ∧ (cr (eK b m) = cr b → eK b m = b) := by
 induction b generalizing m with
 | nil => exact ⟨Int.le_refl _, fun _ => rfl⟩
 | cons x b ih =>
  obtain ⟨h1, h2⟩ := ih (fun y hy => hb y (List.mem_cons_of_mem _ hy)) (eh hm 1)
  obtain ⟨g1, g2, _⟩ := Br (hb x (List.mem_cons_self ..)) (ef hm 0)
  rw [sm, vc, vc]
  refine ⟨oM, fun e => ?_⟩
  rw [g2 oM, h2 oM]
theorem sj (b m : List Int) (n : Nat) : (eK b m).take n = eK (b.take n) m := by
 apply List.ext_getElem?
 intro i
 rw [List.getElem?_take, eJ, eJ, List.getElem?_take]
 split <;> rfl
theorem sk (b m : List Int) (n : Nat) : (eK b m).drop n = eK (b.drop n) (m.drop n) := by
 apply List.ext_getElem?
 intro i
 rw [List.getElem?_drop, eJ, eJ, List.getElem?_drop, vH]
theorem Ge (a b : Int) (ha : 0 ≤ a ∧ a < 256) (hb : 0 ≤ b ∧ b < 256) : eN [a, b] = a * 256 + b := by
 simp only [eN, List.foldl_cons, List.foldl_nil]
 omega
theorem Kj {l : List Int} (h : l.length = 2) : ∃ a b, l = [a, b] := by
 match l, h with
 | [a, b], _ => exact ⟨a, b, rfl⟩
theorem yk (hp : Bytes p) (hm : Bytes m) (hl : p.length = 64) (hg : du p = true) : du (eK p m) = decide (eK p m = p) := by
 unfold du at hg ⊢
 rw [decide_eq_true_eq] at hg
 obtain ⟨_, hg⟩ := hg
 rw [db, sj, sk]
 obtain ⟨z1, z2⟩ := DI (gA hp 62) hm
 obtain ⟨a, b, SD⟩ := Kj (l := p.drop 62) (by rw [List.length_drop, hl])
 have ha := hp a (List.mem_of_mem_drop (by rw [SD]; simp))
 have hb := hp b (List.mem_of_mem_drop (by rw [SD]; simp))
 have JO := eh hm 62
 obtain ⟨_, _, a3⟩ := Br ha (ef JO 0)
 obtain ⟨_, _, b3⟩ := Br hb (ef (eh JO 1) 0)
 have oa := nL ha (ef JO 0)
 have ob := nL hb (ef (eh JO 1) 0)
 rw [SD, Ge a b ha hb] at hg
 have ht : eK [a, b] (m.drop 62) = [nv a (dj (m.drop 62) 0), nv b (dj ((m.drop 62).drop 1) 0)] := by
  rw [sm, sm]; rfl
 rw [SD, ht, Ge _ _ oa ob]
 have Wg : p = p.take 62 ++ [a, b] := by rw [← SD, List.take_append_drop]
 have vX : eK p m = eK (p.take 62) m ++ [nv a (dj (m.drop 62) 0), nv b (dj ((m.drop 62).drop 1) 0)] := by
  conv => lhs; rw [← List.take_append_drop 62 (eK p m), sj, sk, SD, ht]
 generalize nv a (dj (m.drop 62) 0) = A at *
 generalize nv b (dj ((m.drop 62).drop 1) 0) = B at *
 by_cases hq : eK p m = p
 ·rw [decide_eq_true hq, decide_eq_true_eq]
  rw [hq] at vX
  have e := Wg.symm.trans vX
  have e1 := List.append_inj e (by rw [db])
  refine ⟨hl, ?_⟩
  rw [← e1.1]
  have e2 := e1.2
  injection e2 with e3 e4
  injection e4 with e4
  omega
 rw [decide_eq_false hq, decide_eq_false_iff_not]
 rintro ⟨_, h⟩
 apply hq
 have z3 := z2 oM
 rw [vX, z3]
 have : A = a := oM
 have : B = b := oM
 subst A B
 exact Wg.symm
theorem Ho (n : Int) (m : Nat) : eM n (m + 1) = eM (n / 256) m ++ [n % 256] := by
 unfold eM
 rw [List.range_succ, List.map_append]
 congr 1
 ·apply List.map_congr_left
  intro i hi
  rw [List.mem_range] at hi
  have e : (256 : Int) ^ (m + 1 - 1 - i) = 256 * 256 ^ (m - 1 - i) := by
   rw [show m + 1 - 1 - i = (m - 1 - i) + 1 by omega, Int.pow_succ, Int.mul_comm]
  rw [e, Int.ediv_ediv_of_nonneg oM]
 simp
theorem D7 (m : Nat) : 0 < (256 : Int) ^ m := Int.pow_pos oM
theorem Hp {m : Nat} (h : m ≤ 8) : (256 : Int) ^ m ≤ 18446744073709551616 := by
 have : ∀ k : Fin 9, (256 : Int) ^ k.val ≤ 18446744073709551616 := by decide
 exact this ⟨m, oM⟩
theorem zJ (n : Int) (m : Nat) (hn : 0 ≤ n) (hm : m ≤ 8) : eN (eM n m) = n % 256 ^ m := by
 induction m generalizing n with
 | zero => simp [eM, eN]
 | succ m ih =>
  rw [Ho, qL, ih (n / 256) oM oM]
  have e : (256 : Int) ^ (m + 1) = 256 ^ m * 256 := Int.pow_succ ..
  have hp := D7 m
  have hle := Hp hm
  rw [e] at hle ⊢
  generalize (256 : Int) ^ m = P at *
  have h1 := Int.emod_nonneg (n / 256) (b := P) oM
  have h2 := Int.emod_lt_of_pos (n / 256) hp
  have h5 : n % (P * 256) = n / 256 % P * 256 + n % 256 := by
   have h6 : P * 256 = 256 * P := Int.mul_comm ..
   rw [h6, Int.emod_def n (256 * P), ← Int.ediv_ediv_of_nonneg oM, Int.emod_def (n / 256) P, Int.mul_assoc]
   generalize P * (n / 256 / P) = Q
   omega
  rw [h5]
  generalize n / 256 % P = R at *
  have h4 : R * 256 + n % 256 < 18446744073709551616 := oM
  rw [Int.emod_eq_of_lt oM h4]
theorem sV (q : Int) (v : List Int) (k : Nat) : du (eL q v k) = true := by
 unfold du
 rw [decide_eq_true_eq]
 refine ⟨dO _ _ _, ?_⟩
 unfold eL
 have h := gm (fH q v k)
 rw [ep] at h
 rw [List.drop_left' (ep q v k), List.take_left' (ep q v k), zJ _ _ h.1 oM]
 have e : (256 : Int) ^ 2 = 65536 := by decide
 rw [e]
 omega
theorem I9 : du (List.replicate 64 255) = false := by decide +kernel
theorem Aj {v : List Int} (hi : i < cO v.length) : (dS q v)[i]? = some (eL q v i) := by
 unfold dS
 rw [List.getElem?_map, List.getElem?_range hi]
 rfl
theorem KJ {v : List Int} {k : Nat} (hi : i < 6) : ((eL q v k).drop (8 + 8 * i)).take 8 = la v k i := by
 have e : ∀ i ≤ 6, (List.range 6).flatMap (la v k) = (List.range i).flatMap (la v k) ++ ((List.range 6).drop i).flatMap (la v k) := by
  intro i hi
  conv => lhs; rw [← List.take_append_drop i (List.range 6), List.flatMap_append]
  congr 2
  rw [List.take_range]
  congr 1
  omega
 have e2 : (List.range 6).drop i = i :: (List.range 6).drop (i + 1) := by
  rw [List.drop_eq_getElem_cons (by simpa using hi)]
  simp
 unfold eL fH fI
 rw [e i oM, e2, List.flatMap_cons]
 simp only [List.append_assoc]
 rw [← List.append_assoc (pC q v.length k), List.drop_left' (by rw [List.length_append, mY, LM]), List.take_left' (tB v k i)]
theorem Pd (h : dH x) : zb (l4 x) = x := by
 unfold dH at h
 rw [wX]
 unfold zb
 rw [IntKind.wrap_i64]
 omega
theorem ZU : (256 : Int) ^ 8 = 18446744073709551616 := by decide
theorem ZV : (256 : Int) ^ 6 = 281474976710656 := by decide
theorem Mg {v : List Int} (hi : i < v.length) (hv : v[i]? = some x) (hx : dH x) : lq (dS q v) i = x := by
 unfold lq
 rw [Aj (by unfold cO; omega), Option.getD_some, KJ oM]
 unfold la
 rw [show 6 * (i / 6) + i % 6 = i by omega, hv]
 simp only
 have h1 := Pd hx
 have h2 := oR x
 generalize l4 x = U at *
 rw [zJ _ _ h2.1 oM, ZU, Int.emod_eq_of_lt h2.1 h2.2, h1]
theorem Ht {v : List Int} {k : Nat} : (eL q v k)[1]? = some (v.length : Int) ∧ ((eL q v k).drop 2).take 6 = eM (l4 q) 6 := by
 unfold eL fH fI pC
 simp only [List.append_assoc, List.cons_append, List.nil_append]
 refine ⟨rfl, ?_⟩
 simp only [List.drop_succ_cons, List.drop_zero]
 rw [List.take_left' (cK _ _)]
theorem O4 {v : List Int} (he : fX q v.length = 0) (hv : ∀ x ∈ v, dH x) : ff (dS q v) = (q, v, 0) := by
 obtain ⟨q1, q2, n1, n2⟩ := ks he
 have hl := wE q v
 have sO : 1 ≤ cO v.length := jZ n1
 have hp8 : cO v.length ≤ 8 := jL n2
 unfold ff
 rw [hl, iN oM]
 have gG : (dS q v).all du = true := by
  rw [List.all_eq_true]
  intro p hp
  unfold dS at hp
  rw [List.mem_map] at hp
  obtain ⟨k, _, rfl⟩ := hp
  exact sV _ _ _
 rw [gG, iN (by decide), Aj (by omega : 0 < cO v.length), Option.getD_some]
 obtain ⟨h1, h2⟩ := Ht (q := q) (v := v) (k := 0)
 have hs : zb (eN (((eL q v 0).drop 2).take 6)) = q := by
  rw [h2, zJ _ _ (oR q).1 oM, ZV, wX]
  unfold zb
  rw [IntKind.wrap_i64]
  omega
 have hvv : (List.range v.length).map (lq (dS q v)) = v := by
  apply List.ext_getElem?
  intro i
  rw [List.getElem?_map]
  by_cases hi : i < v.length
  ·obtain ⟨x, hx⟩ := getElem?_of_lt hi
   rw [List.getElem?_range hi, hx, Option.map_some, Mg hi hx (hv x (List.mem_of_getElem? hx))]
  rw [List.getElem?_eq_none (by simpa using hi), List.getElem?_eq_none oM]
  rfl
 simp only [h1, Option.getD_some, hs, Int.toNat_natCast, hvv]
 rw [iN oM, iN (by simp [he])]
theorem GF {ps : List (List Int)} (h : (ff ps).2.2 = 0) : ps = dS (ff ps).1 (ff ps).2.1 ∧ fX (ff ps).1 (ff ps).2.1.length = 0 ∧ ps.all du = true ∧ cO (ff ps).2.1.length = ps.length := by
 unfold ff at h ⊢
 split at h
 ·cases h
 split at h
 ·cases h
 rename_i h1 h2
 simp only at h ⊢
 split at h
 ·cases h
 split at h
 ·cases h
 rename_i h3 h4
 rw [iN h1, iN h2, iN h3, iN h4]
 simp only
 simp only [not_or, Classical.not_not] at h4 h3
 refine ⟨h4.2.symm, h4.1, by simpa using h2, ?_⟩
 rw [List.length_map, List.length_range]
 exact h3.2.2
theorem wK (ps : List (List Int)) (i : Nat) : dH (lq ps i) := by
 unfold lq zb dH
 rw [IntKind.wrap_i64]
 omega
theorem td (ps : List (List Int)) : ∀ x ∈ (ff ps).2.1, dH x := by
 unfold ff
 split
 ·simp
 split
 ·simp
 simp only
 split
 ·simp
 split
 ·simp
 intro x hx
 rw [List.mem_map] at hx
 obtain ⟨i, _, rfl⟩ := hx
 exact wK _ _
theorem KG (N a n : Nat) (x : Int) (h : a + n ≤ N) : ((List.replicate N x).drop a).take n = List.replicate n x := by
 rw [List.drop_replicate, List.take_replicate, Nat.min_eq_left oM]
theorem th (n : Nat) : ch (List.replicate n 255) = true := by
 unfold ch
 rw [List.all_eq_true]
 intro x hx
 rw [List.mem_replicate] at hx
 simp [hx.2]
theorem KO (h : 0 ≤ y ∧ y < 256) : nv y 0 = y := by
 obtain ⟨Y, rfl⟩ := Int.eq_ofNat_of_zero_le h.1
 unfold nv
 have := u8_or_nat Y 0 oM oM
 simpa using this
theorem Mu {page : Int} (h1 : f.aF = false) (h2 : 0 ≤ page) (h3 : page < (f.aq.length * f.pg : Nat)) : lZ f page = 0 := by
 unfold lZ
 rw [iN (by simp [h1]), iN oM]
structure Ac where
 k : Int
 a : Int
 n : Int
 B : Option Addr
 m : Nat
 e : Nat
 b : List Int
 P : Option Addr
 q : Nat
 r : Nat
 p : List Int
def Ac.cells (x : Ac) : List Value := [.int .u8 x.k, .int .i64 x.a, .int .i64 x.n, .slice x.B x.m x.e, .slice x.P x.q x.r]
theorem Ac.m8 (x : Ac) : x.cells.length = 5 := rfl
structure Ac.ok (x : Ac) (w : World) (B0 : Nat) : Prop where
 rb : Rd w B0 x.B (ag .u8 x.b)
 lb : x.b.length = x.m
 mb : x.m ≤ x.e
 cb : x.e ≤ maxLen
 bb : Bytes x.b
 rp : Rd w B0 x.P (ag .u8 x.p)
 lp : x.p.length = x.q
 mp : x.q ≤ x.r
 cp : x.r ≤ maxLen
 bp : Bytes x.p
 sq : x.q ≤ 140737488351232
 k0 : 0 ≤ x.k
 k1 : x.k < 256
 wa : (Lit.int .i64 x.a).wf = true
 wn : (Lit.int .i64 x.n).wf = true
theorem Ac.ok.below {x : Ac} {B0 B1 : Nat} (h : x.ok w B0) (hb : Below B1 w w') (hB : B0 ≤ B1) : x.ok w' B0 :=
 ⟨h.rb.below hb hB, h.lb, h.mb, h.cb, h.bb, h.rp.below hb hB, h.lp, h.mp, h.cp, h.bp, h.sq, h.k0, h.k1, h.wa, h.wn⟩
structure Fl.up (f : Fl) : Prop where
 ok : f.ok
 dn : f.aF = false
 fu : f.be = -1
theorem oP (h : f.be = -1) : dx f = (f, false) := by unfold dx; rw [h, iN oM, iN oM]
theorem FL (h : f.ok) (hK : K < f.aq.length * f.pg) : 64 * K + 64 ≤ f.img.length := by
 rw [h.len]
 have : K + 1 ≤ f.aq.length * f.pg := oM
 omega
theorem zq (h : f.up) (hK : K < f.aq.length * f.pg) (hb : b.length = 64) :
 bz f K b = if ch (aB f K) = true then ({ f with img := lay f.img (64 * K) b }, 0) else (f, 12) := by
 unfold bz
 rw [Mu h.dn oM oM, iN oM, iN oM, oP h.fu]
 simp only [Int.toNat_natCast]
 by_cases cB : ch (aB f K) = true
 ·rw [cB, iN (by simp), iN (by simp), iP rfl]
 have EC : ch (aB f K) = false := by simpa using cB
 rw [EC, iP rfl, iN (by simp)]
theorem FM (h : f.up) (hK : K < f.aq.length * f.pg) : ft f K = (aB f K, 0) := by
 unfold ft
 rw [Mu h.dn oM oM, iN oM]
 simp only [Int.toNat_natCast]
theorem sF (h : f.ok) (hK : K < f.aq.length * f.pg) (hb : b.length = 64) : aB { f with img := lay f.img (64 * K) b } K = b := by
 have hr := FL h hK
 apply List.ext_getElem?
 intro i
 unfold aB
 simp only
 rw [List.getElem?_take, List.getElem?_drop, mV _ _ _ oM]
 by_cases hi : i < 64
 ·rw [iP hi, iP oM, show 64 * K + i - 64 * K = i by omega]
 rw [iN hi, List.getElem?_eq_none oM]
theorem Kh (h : f.up) (hB : B < f.aq.length) : aT f B = ({ f with img := lay f.img (64 * f.pg * B) (List.replicate (64 * f.pg) 255), aq := fa f.aq B }, 0) := by
 unfold aT
 rw [iN (by simp [h.dn]), iN oM, oP h.fu, iN (by simp)]
 simp only [Int.toNat_natCast]
theorem BW (h : f.ok) (hK : K < f.aq.length * f.pg) (w : List Int) : aB { f with img := lay f.img (64 * f.pg * (K / f.pg)) (List.replicate (64 * f.pg) 255), aq := w } K = List.replicate 64 255 := by
 have hp := h.p1
 have hdm := Nat.div_add_mod K f.pg
 have aW := Nat.mod_lt K (show 0 < f.pg by omega)
 have hB : K / f.pg < f.aq.length := Nat.div_lt_of_lt_mul (by rw [Nat.mul_comm]; exact hK)
 have Gn : 64 * f.pg * (K / f.pg) + 64 * f.pg ≤ f.img.length := by
  rw [h.len]
  have hb : K / f.pg + 1 ≤ f.aq.length := oM
  have := Nat.mul_le_mul_right (64 * f.pg) hb
  rw [Nat.add_mul, Nat.one_mul] at this
  rw [Nat.mul_comm (64 * f.pg), Nat.mul_assoc f.aq.length, Nat.mul_comm f.pg 64]
  exact this
 have e1 : 64 * f.pg * (K / f.pg) = 64 * (f.pg * (K / f.pg)) := by rw [Nat.mul_assoc]
 apply List.ext_getElem?
 intro i
 unfold aB
 simp only
 rw [List.getElem?_take, List.getElem?_drop, mV _ _ _ (by rw [List.length_replicate]; exact Gn), List.length_replicate]
 by_cases hi : i < 64
 ·rw [iP hi, iP oM, List.getElem?_replicate, List.getElem?_replicate, iP oM, iP hi]
 rw [iN hi, List.getElem?_eq_none (by rw [List.length_replicate]; omega)]
theorem Ed {b p : Nat} (h1 : 1 ≤ b) (h2 : b ≤ 64) (h3 : 1 ≤ p) (h4 : p ≤ 16) : (ee b p).up := ⟨Gh h1 h2 h3 h4, rfl, rfl⟩
theorem DN (h : f.up) (hK : K < f.aq.length * f.pg) (hb : b.length = 64) (nA : Bytes b) : ({ f with img := lay f.img (64 * K) b } : Fl).up := by
 have hr := FL h.ok hK
 exact ⟨⟨h.ok.p1, h.ok.p2, h.ok.b1, h.ok.b2, by simp only; rw [cL _ _ _ oM, h.ok.len], mn h.ok.wQ nA, h.ok.yz, h.ok.LK, h.ok.LJ⟩, h.dn, h.fu⟩
theorem Ia (b p K : Nat) (hK : K < b * p) : ch (aB (ee b p) K) = true := by
 unfold aB
 simp only [ee]
 rw [KG _ _ _ _ oM, th]
theorem yY {x : List Int} (hx : x.length = 64) : ch x = true ↔ x = List.replicate 64 255 := by
 constructor
 ·intro h
  apply List.ext_getElem?
  intro i
  rw [List.getElem?_replicate]
  by_cases hi : i < 64
  ·obtain ⟨y, hy⟩ := getElem?_of_lt (l := x) (k := i) oM
   unfold ch at h
   rw [List.all_eq_true] at h
   have := h y (List.mem_of_getElem? hy)
   rw [hy, iP hi]
   simpa using this
  rw [List.getElem?_eq_none oM, iN hi]
 intro h
 rw [h]
 exact th 64
structure aaX (bl pg K : Nat) (x y : List Int) (f1 f2 f3 f4 : Fl) : Prop where
 p1 : bz (ee bl pg) K x = (f1, 0)
 p2 : bz f1 K y = (f2, if x = List.replicate 64 255 then 0 else 12)
 r2 : ft f2 K = (if x = List.replicate 64 255 then y else x, 0)
 e3 : aT f2 ((K / pg : Nat) : Int) = (f3, 0)
 p4 : bz f3 K y = (f4, 0)
 r4 : ft f4 K = (y, 0)
 w4 : f4.aq.length = bl ∧ f4.aq[K / pg]? = some 1
theorem held {bl pg : Nat} {x y : List Int} (h1 : 1 ≤ bl) (h2 : bl ≤ 64) (h3 : 1 ≤ pg) (h4 : pg ≤ 16) (hK : K < bl * pg) (hx : x.length = 64) (hy : y.length = 64) (qy : Bytes x) (Vq : Bytes y) : ∃ f1 f2 f3 f4, aaX bl pg K x y f1 f2 f3 f4 := by
 have u0 := Ed h1 h2 h3 h4
 have k0 : K < (ee bl pg).aq.length * (ee bl pg).pg := by simpa [ee] using hK
 have q1 := zq u0 k0 hx
 rw [iP (Ia bl pg K hK)] at q1
 have u1 := DN u0 k0 hx qy
 have g1 := sF u0.ok k0 hx
 have w1 : ({ ee bl pg with img := lay (ee bl pg).img (64 * K) x } : Fl).aq = List.replicate bl 0 := rfl
 have s1 : ({ ee bl pg with img := lay (ee bl pg).img (64 * K) x } : Fl).pg = pg := rfl
 generalize ({ ee bl pg with img := lay (ee bl pg).img (64 * K) x } : Fl) = f1 at *
 have k1 : K < f1.aq.length * f1.pg := by rw [w1, s1, List.length_replicate]; exact hK
 have q2 := zq u1 k1 hy
 rw [g1] at q2
 obtain ⟨f2, Nm⟩ := ex (if x = List.replicate 64 255 then ({ f1 with img := lay f1.img (64 * K) y } : Fl) else f1)
 have q2' : bz f1 K y = (f2, if x = List.replicate 64 255 then 0 else 12) := by
  rw [q2, ← Nm]
  by_cases hb : x = List.replicate 64 255
  ·rw [iP hb, iP hb, iP ((yY hx).2 hb)]
  rw [iN hb, iN hb, iN (fun h => hb ((yY hx).1 h))]
 have u2 : f2.up ∧ f2.aq = List.replicate bl 0 ∧ f2.pg = pg ∧ aB f2 K = if x = List.replicate 64 255 then y else x := by
  rw [← Nm]
  by_cases hb : x = List.replicate 64 255
  ·rw [iP hb, iP hb]
   exact ⟨DN u1 k1 hy Vq, w1, s1, sF u1.ok k1 hy⟩
  rw [iN hb, iN hb]
  exact ⟨u1, w1, s1, g1⟩
 obtain ⟨u2, w2, s2, g2⟩ := u2
 have k2 : K < f2.aq.length * f2.pg := by rw [w2, s2, List.length_replicate]; exact hK
 have r2 := FM u2 k2
 rw [g2] at r2
 have hB : K / pg < bl := Nat.div_lt_of_lt_mul (by rw [Nat.mul_comm]; exact hK)
 have hBp : K / pg = K / f2.pg := by rw [s2]
 rw [hBp] at hB
 have e3 := Kh u2 (B := K / f2.pg) (by rw [w2, List.length_replicate]; exact hB)
 have pe := BW u2.ok k2 (fa f2.aq (K / f2.pg))
 have ok3 : ({ f2 with img := lay f2.img (64 * f2.pg * (K / f2.pg)) (List.replicate (64 * f2.pg) 255), aq := fa f2.aq (K / f2.pg) } : Fl).ok := by
  have := (kr (block := ((K / f2.pg : Nat) : Int)) u2.ok)
  rw [e3] at this
  exact this
 have w3 : ({ f2 with img := lay f2.img (64 * f2.pg * (K / f2.pg)) (List.replicate (64 * f2.pg) 255), aq := fa f2.aq (K / f2.pg) } : Fl).aq = fa (List.replicate bl 0) (K / f2.pg) := by rw [← w2]
 have s3 : ({ f2 with img := lay f2.img (64 * f2.pg * (K / f2.pg)) (List.replicate (64 * f2.pg) 255), aq := fa f2.aq (K / f2.pg) } : Fl).pg = pg := s2
 have u3 : ({ f2 with img := lay f2.img (64 * f2.pg * (K / f2.pg)) (List.replicate (64 * f2.pg) 255), aq := fa f2.aq (K / f2.pg) } : Fl).up := ⟨ok3, u2.dn, u2.fu⟩
 generalize ({ f2 with img := lay f2.img (64 * f2.pg * (K / f2.pg)) (List.replicate (64 * f2.pg) 255), aq := fa f2.aq (K / f2.pg) } : Fl) = f3 at *
 have l3 : f3.aq.length = bl := by rw [w3, dz, List.length_replicate]
 have k3 : K < f3.aq.length * f3.pg := by rw [l3, s3]; exact hK
 have q4 := zq u3 k3 hy
 rw [pe, iP (th 64)] at q4
 have u4 := DN u3 k3 hy Vq
 have r4 := FM u4 (K := K) (by show K < f3.aq.length * f3.pg; exact k3)
 rw [sF u3.ok k3 hy] at r4
 refine ⟨f1, f2, f3, _, q1, q2', r2, by rw [hBp]; exact e3, q4, r4, l3, ?_⟩
 show f3.aq[K / pg]? = some 1
 rw [w3, hBp]
 unfold fa
 rw [List.getElem?_set, iP rfl, List.length_replicate, iP hB, List.getElem?_replicate, iP hB]
 show some (wrap64 (0 + 1)) = some 1
 rw [show wrap64 (0 + 1) = 1 by unfold wrap64; omega]
end Go.Proofs.YtjdknddnanopaaaGreat
