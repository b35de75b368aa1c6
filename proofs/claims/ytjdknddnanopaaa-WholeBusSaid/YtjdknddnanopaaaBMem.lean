
/-
  Words for memory: a slice that reads as a list; rows of the call's own.
-/
import Derived.WalkKit
import Derived.Lib.Hide
import Derived.Deep.Draws
import Derived.Maps.AppendAt
import Derived.Deep.AppendLies
import Derived.OwnWalk
import Derived.WalkSpells
import Derived.WalkLawsBesides
import Derived.Deep.QuietTactic
import Derived.BigQuiet
namespace Go.Proofs.Ytjdknddnanopaaa.Bus
open Go.RowKit

theorem flat_get {α β : Type} (f : α → List β) (m : Nat) (hm : ∀ a, (f a).length = m) :
    ∀ (l : List α) (k j : Nat) (x : α) (u : β), l[k]? = some x → (f x)[j]? = some u → (l.flatMap f)[k * m + j]? = some u
  | [], k, j, x, u, h, _ => by simp at h
  | a :: l, 0, j, x, u, h, hu => by
    simp at h; subst h
    simp only [List.flatMap_cons, Nat.zero_mul, Nat.zero_add]
    rw [List.getElem?_append_left]
    · exact hu
    · exact (List.getElem?_eq_some_iff.1 hu).1
  | a :: l, k + 1, j, x, u, h, hu => by
    have ih := flat_get f m hm l k j x u (by simpa using h) hu
    simp only [List.flatMap_cons]
    rw [List.getElem?_append_right (by rw [hm, Nat.add_mul]; omega), hm, show (k + 1) * m + j - m = k * m + j by rw [Nat.add_mul]; omega]
    exact ih

theorem flat_length {α β : Type} (f : α → List β) (m : Nat) (hm : ∀ a, (f a).length = m) :
    ∀ (l : List α), (l.flatMap f).length = l.length * m
  | [] => by simp
  | a :: l => by simp only [List.flatMap_cons, List.length_append, hm, flat_length f m hm l, List.length_cons, Nat.add_mul]; omega

theorem take_snoc_get {α : Type} (l : List α) (k : Nat) (x : α) (h : l[k]? = some x) : l.take (k + 1) = l.take k ++ [x] := by
  rw [List.take_add_one, h]; rfl

theorem drop_cons_get {α : Type} (l : List α) (k : Nat) (x : α) (h : l[k]? = some x) : l.drop k = x :: l.drop (k + 1) := by
  have hk := (List.getElem?_eq_some_iff.1 h)
  obtain ⟨hl, he⟩ := hk
  rw [List.drop_eq_getElem_cons hl, he]

theorem getElem?_of_lt {α : Type} {l : List α} {k : Nat} (h : k < l.length) : ∃ x, l[k]? = some x := ⟨l[k], List.getElem?_eq_getElem h⟩

/-- The address leads to these cells, in a block below B. -/
def Rd (w : World) (B : Nat) (A : Option Addr) (xs : List Value) : Prop :=
  xs ≠ [] → ∃ b off, A = some ⟨b, off, none⟩ ∧ b < B ∧ ∀ j u, xs[j]? = some u → w.cell? ⟨b, off + j, none⟩ = some u

theorem Rd.below {w w' : World} {B B' : Nat} {A : Option Addr} {xs : List Value} (h : Rd w B A xs) (hb : Below B' w w') (hB : B ≤ B') : Rd w' B A xs := fun hx => by
  obtain ⟨b, off, e, hlt, hc⟩ := h hx
  exact ⟨b, off, e, hlt, fun j u hu => (hb.cell (p := ⟨b, off + j, none⟩) (Nat.lt_of_lt_of_le hlt hB)).trans (hc j u hu)⟩

theorem Rd.more {w : World} {B B' : Nat} {A : Option Addr} {xs : List Value} (h : Rd w B A xs) (hB : B ≤ B') : Rd w B' A xs := fun hx => by
  obtain ⟨b, off, e, hlt, hc⟩ := h hx
  exact ⟨b, off, e, by omega, hc⟩

theorem bcell {B : Nat} {W w1 : World} (hb : Below B W w1) : (∀ b o, b < B → w1.cell? ⟨b, o, none⟩ = W.cell? ⟨b, o, none⟩) ∧ (∀ b o, b < B → w1.frozen? ⟨b, o, none⟩ = W.frozen? ⟨b, o, none⟩) :=
  ⟨fun b o h => hb.cell (p := ⟨b, o, none⟩) h, fun b o h => hb.frozen (p := ⟨b, o, none⟩) h⟩

theorem Below.drewN {B : Nat} {a w : World} (h : Below B a w) (n : Nat) : Below B a (w.drewN n) := ⟨h.os, h.tape, h.output, h.size, h.block⟩

theorem grown_of_below {w w' : World} (hb : Below w.heap.size w w') : w.grownBy w' none := ⟨hb.os, hb.tape, hb.output, hb.size, fun k hk _ => hb.block k hk⟩

theorem own_below {w w' : World} {base : Nat} {e : TypeId} {size : Nat} {v : Value} {n : Nat} {xs : List Value} (h : w.ownsRow base e size v n xs) (hb : Below w.heap.size w w') : w'.ownsRow base e size v n xs :=
  h.kept (grown_of_below hb) (by cases hv : v.ownBlock <;> simp)

/-- A slice of the call's own, read. -/
theorem own_read {w : World} {base : Nat} {e : TypeId} {size : Nat} {v : Value} {n : Nat} {xs : List Value} (h : w.ownsRow base e size v n xs) :
    ∃ A c, v = .slice A n c ∧ n ≤ c ∧ c ≤ maxLen ∧ Rd w w.heap.size A xs := by
  rcases h.2 with ⟨rfl, rfl⟩ | ⟨g, cap, cur, rfl, hb, hg, hnc, hcm, hcs, htake⟩
  · refine ⟨none, 0, rfl, Nat.le_refl _, Nat.zero_le _, fun hx => absurd (List.eq_nil_of_length_eq_zero (by simpa using h.1)) hx⟩
  · refine ⟨_, cap, rfl, hnc, hcm, fun _ => ⟨g, 0, rfl, (Array.getElem?_eq_some_iff.1 hg).1, fun j u hu => ?_⟩⟩
    rw [Nat.zero_add, cell_of_row w g j cur e (0, 0) hg]
    rw [← htake, List.getElem?_take] at hu
    split at hu
    · simpa using hu
    · cases hu

/-- The error value of a code; 0: none. -/
def errV (c : Int) : Value := if c = 0 then .nilIface else .iface 77 (.int .i64 c)

theorem errV_zero : errV 0 = .nilIface := rfl

theorem errV_ne {c : Int} (h : c ≠ 0) : errV c = .iface 77 (.int .i64 c) := if_neg h

def icells (l : List Int) : List Value := l.map (Value.int .i64)

theorem Rd.int {w : World} {B : Nat} {A : Option Addr} {l : List Int} (h : Rd w B A (icells l)) {k : Nat} {x : Int} (hx : l[k]? = some x) :
    ∃ b off, A = some ⟨b, off, none⟩ ∧ b < B ∧ w.cell? ⟨b, off + k, none⟩ = some (.int .i64 x) := by
  have hl : (icells l)[k]? = some (.int .i64 x) := by simp [icells, hx]
  have hne : icells l ≠ [] := by
    intro e
    rw [e] at hl
    simp at hl
  obtain ⟨b, off, e, hlt, hc⟩ := h hne
  exact ⟨b, off, e, hlt, hc _ _ hl⟩

def kcells (k : IntKind) (l : List Int) : List Value := l.map (Value.int k)

theorem Rd.kint {k : IntKind} {w : World} {B : Nat} {A : Option Addr} {l : List Int} (h : Rd w B A (kcells k l)) {j : Nat} {x : Int} (hx : l[j]? = some x) :
    ∃ b off, A = some ⟨b, off, none⟩ ∧ b < B ∧ w.cell? ⟨b, off + j, none⟩ = some (.int k x) := by
  have hl : (kcells k l)[j]? = some (.int k x) := by simp [kcells, hx]
  have hne : kcells k l ≠ [] := by
    intro e
    rw [e] at hl
    simp at hl
  obtain ⟨b, off, e, hlt, hc⟩ := h hne
  exact ⟨b, off, e, hlt, hc _ _ hl⟩

/-- The value of a slice of the call's own. -/
theorem own_form {w : World} {base : Nat} {e : TypeId} {size : Nat} {v : Value} {n : Nat} {xs : List Value} (h : w.ownsRow base e size v n xs) :
    ∃ A c, v = .slice A n c ∧ n ≤ c ∧ c ≤ maxLen ∧ (0 < n → ∃ g, A = some ⟨g, 0, none⟩ ∧ base ≤ g ∧ g < w.heap.size) := by
  rcases h.2 with ⟨rfl, rfl⟩ | ⟨g, cap, cur, rfl, hb, hg, hnc, hcm, hcs, htake⟩
  · exact ⟨none, 0, rfl, Nat.le_refl _, Nat.zero_le _, fun hx => absurd hx (by omega)⟩
  · exact ⟨_, cap, rfl, hnc, hcm, fun _ => ⟨g, rfl, hb, (Array.getElem?_eq_some_iff.1 hg).1⟩⟩

theorem cells_new (w : World) (cs : Array Value) (t : TypeId) (xs : List Value) (h : cs.toList = xs) :
    ∀ j u, xs[j]? = some u → (w.alloc (.cells cs t)).cell? ((⟨w.heap.size, 0, none⟩ : Addr).add j) = some u := by
  intro j u hu
  subst h
  rw [Addr.add_lit, Nat.zero_add, World.cell?_alloc_new]
  simpa using hu

set_option linter.unusedVariables false

theorem cells_new_at (w : World) (cs : Array Value) (t : TypeId) (xs : List Value) (g : Nat) (hg : g = w.heap.size) (h : cs.toList = xs) :
    ∀ j u, xs[j]? = some u → (w.alloc (.cells cs t)).cell? ((⟨g, 0, none⟩ : Addr).add j) = some u := by
  subst hg; exact cells_new w cs t xs h

/-- The cells of a block that was just made. -/
theorem Rd.new (w : World) (cs : Array Value) (t : TypeId) (xs : List Value) (h : cs.toList = xs) : Rd (w.alloc (.cells cs t)) (w.heap.size + 1) (some ⟨w.heap.size, 0, none⟩) xs := fun _ =>
  ⟨w.heap.size, 0, rfl, by omega, fun j u hu => by
    subst h
    rw [Nat.zero_add, World.cell?_alloc_new]
    simpa using hu⟩

theorem Rd.prefix {w : World} {B : Nat} {A : Option Addr} {xs ys : List Value} (h : Rd w B A xs) (hp : ys <+: xs) : Rd w B A ys := by
  intro hy
  obtain ⟨z, rfl⟩ := hp
  obtain ⟨b, off, e, hlt, hc⟩ := h (by simp [hy])
  refine ⟨b, off, e, hlt, fun j u hu => hc j u ?_⟩
  rw [List.getElem?_append_left (List.getElem?_eq_some_iff.1 hu).1]
  exact hu

theorem icells_take (l : List Int) (k : Nat) : icells (l.take k) <+: icells l := by
  refine ⟨icells (l.drop k), ?_⟩
  simp only [icells, ← List.map_append, List.take_append_drop]

theorem flat_set {α : Type} (f : α → List Value) (m : Nat) (hm : ∀ a, (f a).length = m) (l : List α) (k : Nat) (x y : α) (j : Nat) (u : Value) (hx : l[k]? = some x) (hj : j < m) (hy : f y = (f x).set j u) :
    (l.set k y).flatMap f = (l.flatMap f).set (k * m + j) u := by
  induction l generalizing k with
  | nil => simp at hx
  | cons a l ih =>
    cases k with
    | zero =>
      simp at hx; subst hx
      simp only [List.set_cons_zero, List.flatMap_cons, Nat.zero_mul, Nat.zero_add]
      rw [List.set_append_left _ _ (by rw [hm]; exact hj), hy]
    | succ k =>
      have := ih k (by simpa using hx)
      simp only [List.set_cons_succ, List.flatMap_cons]
      rw [this, List.set_append_right _ _ (by rw [hm, Nat.add_mul]; omega), hm, show (k + 1) * m + j - m = k * m + j by rw [Nat.add_mul]; omega]

/-- A cell of an owned row of structs. -/
theorem own_flat {α : Type} (f : α → List Value) (m : Nat) (hm : ∀ a, (f a).length = m) {w : World} {base e g n cap : Nat} {l : List α} (hl : l.length = n)
    (h : w.ownsRow base e m (.slice (some ⟨g, 0, none⟩) n cap) n (l.flatMap f)) {k : Nat} {x : α} (hx : l[k]? = some x) (j : Nat) (hj : j < m) :
    w.cell? ⟨g, k * m + j, none⟩ = (f x)[j]? := by
  have hk : k < n := by rw [← hl]; exact (List.getElem?_eq_some_iff.1 hx).1
  have hkm : k * m + j < n * m := by
    have : (k + 1) * m ≤ n * m := Nat.mul_le_mul_right m (by omega)
    rw [Nat.add_mul] at this
    omega
  rw [h.cellAt (k * m + j) hkm]
  have hu : (f x)[j]? = some ((f x)[j]'(by rw [hm]; exact hj)) := List.getElem?_eq_getElem _
  rw [hu]
  exact flat_get f m hm l k j x _ hx hu

theorem own_ne_own {w : World} {e e' B B' size size' n n' : Nat} {v v' : Value} {xs xs' : List Value} (h : w.ownsRow B e size v n xs) (h' : w.ownsRow B' e' size' v' n' xs') (hne : e ≠ e') :
    ∀ g, v.ownBlock = some g → v'.ownBlock ≠ some g := by
  intro g hg hg'
  rcases h.2 with ⟨rfl, _⟩ | ⟨g1, cap1, cur1, rfl, _, hh, _⟩
  · simp [Value.ownBlock] at hg
  · simp [Value.ownBlock] at hg
    subst hg
    rcases h'.2 with ⟨rfl, _⟩ | ⟨g2, cap2, cur2, rfl, _, hh2, _⟩
    · simp [Value.ownBlock] at hg'
    · simp [Value.ownBlock] at hg'
      subst hg'
      rw [hh] at hh2
      injection hh2 with hh2
      injection hh2 with _ ht
      exact hne ht

theorem kept_of {w w' : World} {e B size n : Nat} {v : Value} {xs : List Value} (h : w.ownsRow B e size v n xs) {row : Option Nat} (hg : w.grownBy w' row) (hne : ∀ g, v.ownBlock = some g → row ≠ some g) : w'.ownsRow B e size v n xs := by
  refine h.kept hg ?_
  cases hv : v.ownBlock with
  | none => exact .inl rfl
  | some g => exact .inr (fun e => hne g hv e.symm)

section
variable {P : Program} (w : World)

theorem run_append_of_nil (base : Nat) (t ty e : TypeId) (i : TypeInfo) (size : Nat) (ht : P.underlying t = some (.slice e)) (hi : P.info? e = some i)
    (v : Value) (n : Nat) (xs : List Value) (hown : w.ownsRow base e size v n xs) (c : Nat) : (Builtin.append_ #[t, t] ty #[v, .slice none 0 c]).run P w = .ok v w := by
  rcases hown.2 with ⟨rfl, rfl⟩ | ⟨g, cap, cur, rfl, _, _, hnc, _⟩
  · simp [Builtin.append_, run_underlying ht, sizeOf, typeInfo, hi, Builtin.lenOf, Builtin.firstCells]
  · simp [Builtin.append_, run_underlying ht, sizeOf, typeInfo, hi, Builtin.lenOf, Builtin.firstCells, hnc, storeCells]

theorem run_append_of_empty (base : Nat) (t ty e : TypeId) (i : TypeInfo) (size : Nat) (ht : P.underlying t = some (.slice e)) (hi : P.info? e = some i)
    (v : Value) (n : Nat) (xs : List Value) (hown : w.ownsRow base e size v n xs) (A : Option Addr) (c : Nat) : (Builtin.append_ #[t, t] ty #[v, .slice A 0 c]).run P w = .ok v w := by
  cases A with
  | none => exact run_append_of_nil w base t ty e i size ht hi v n xs hown c
  | some ad =>
    rcases hown.2 with ⟨rfl, rfl⟩ | ⟨g, cap, cur, rfl, _, _, hnc, _⟩
    · simp [Builtin.append_, run_underlying ht, sizeOf, typeInfo, hi, Builtin.lenOf, Builtin.firstCells, loadCells, loadCellsFrom]
    · simp [Builtin.append_, run_underlying ht, sizeOf, typeInfo, hi, Builtin.lenOf, Builtin.firstCells, hnc, storeCells, loadCells, loadCellsFrom]

theorem run_append_rd (base : Nat) (t ty e : TypeId) (i : TypeInfo) (z : Value) (size bytes : Nat) (ht : P.underlying t = some (.slice e)) (hi : P.info? e = some i) (hz : i.zero = some z)
    (hsize : i.size = size) (hby : i.bytes = bytes) (hzs : z.cells.size = size) (hsz : 0 < size)
    (v : Value) (n : Nat) (xs : List Value) (hown : w.ownsRow base e size v n xs)
    (B : Nat) (A : Option Addr) (m c : Nat) (news : List Value) (hr : Rd w B A news) (hl : news.length = m * size) (h1 : ∀ u ∈ news, u.oneCell' = true)
    (h63 : n + m ≤ maxLen) (hbytes : (n + m) * bytes ≤ 140737488355328) (hbase : base ≤ w.heap.size) :
    ∃ v' w', (Builtin.append_ #[t, t] ty #[v, .slice A m c]).run P w = .ok v' w' ∧ w'.ownsRow base e size v' (n + m) (xs ++ news) ∧ w.grownBy w' v.ownBlock ∧
      (v'.ownBlock = v.ownBlock ∨ v'.ownBlock = some w.heap.size) := by
  by_cases hm : m = 0
  · subst hm
    have hn : news = [] := List.eq_nil_of_length_eq_zero (by simpa using hl)
    subst hn
    exact ⟨v, w, run_append_of_empty w base t ty e i size ht hi v n xs hown A c, by simpa using hown, World.grownBy.refl w _, .inl rfl⟩
  · have hne : news ≠ [] := by
      rintro rfl
      have := Nat.mul_pos (Nat.pos_of_ne_zero hm) hsz
      rw [List.length_nil] at hl
      omega
    obtain ⟨b, off, rfl, hbB, hc⟩ := hr hne
    have hcells : ∀ j u, news[j]? = some u → w.cell? ((⟨b, off, none⟩ : Addr).add j) = some u := by
      intro j u hu
      rw [Addr.add_lit]
      exact hc j u hu
    obtain ⟨v', w', hrun, h2, h3, _, h5⟩ := run_append_own_at (P := P) w base t ty e i z size bytes ht hi hz hsize hby hzs hsz v n xs hown _ m c news hl hcells h1 h63 hbytes hbase
    exact ⟨v', w', hrun, h2, h3, h5⟩

theorem wp_append_rd {o : Oper} {a : Act} {K : Act → World → Prop} {Q : Exit → Act → World → Prop} (s x : Operand) (t : TypeId)
    (ho : o.op = .call { callee := .builtin .append, args := #[s, x], argTypes := #[t, t] })
    (base : Nat) (e : TypeId) (i : TypeInfo) (z : Value) (size bytes : Nat) (ht : P.underlying t = some (.slice e)) (hi : P.info? e = some i) (hz : i.zero = some z)
    (hsize : i.size = size) (hby : i.bytes = bytes) (hzs : z.cells.size = size) (hsz : 0 < size)
    (v : Value) (n : Nat) (xs : List Value) (hs : a.eval s = v) (hown : w.ownsRow base e size v n xs)
    (B : Nat) (A : Option Addr) (m c : Nat) (news : List Value) (hx : a.eval x = .slice A m c) (hr : Rd w B A news) (hl : news.length = m * size) (h1 : ∀ u ∈ news, u.oneCell' = true)
    (h63 : n + m ≤ maxLen) (hbytes : (n + m) * bytes ≤ 140737488355328) (hbase : base ≤ w.heap.size)
    (h : ∀ v' w', w'.ownsRow base e size v' (n + m) (xs ++ news) → w.grownBy w' v.ownBlock → (v'.ownBlock = v.ownBlock ∨ v'.ownBlock = some w.heap.size) → K (a.put o.dst v') w') : o.wp P a w K Q := by
  obtain ⟨v', w', hrun, h2, h3, h4⟩ := run_append_rd (P := P) w base t o.type e i z size bytes ht hi hz hsize hby hzs hsz v n xs hown B A m c news hr hl h1 h63 hbytes hbase
  unfold Oper.wp execOp
  simp only [ho, resolve, invoke, builtin, Sem.run_bind, Sem.run_pure, Result.andThen_ok, List.map_toArray, List.map_cons, List.map_nil, hs, hx, hrun]
  exact h v' w' h2 h3 h4

theorem wpList_append_rd {ops : Array Oper} {rest : List Oper} {o : Oper} {a : Act} {Q : Exit → Act → World → Prop} (hgd : o.guard = none) (s x : Operand) (t : TypeId)
    (ho : o.op = .call { callee := .builtin .append, args := #[s, x], argTypes := #[t, t] })
    (base : Nat) (e : TypeId) (i : TypeInfo) (z : Value) (size bytes : Nat) (ht : P.underlying t = some (.slice e)) (hi : P.info? e = some i) (hz : i.zero = some z)
    (hsize : i.size = size) (hby : i.bytes = bytes) (hzs : z.cells.size = size) (hsz : 0 < size)
    (v : Value) (n : Nat) (xs : List Value) (hs : a.eval s = v) (hown : w.ownsRow base e size v n xs)
    (B : Nat) (A : Option Addr) (m c : Nat) (news : List Value) (hx : a.eval x = .slice A m c) (hr : Rd w B A news) (hl : news.length = m * size) (h1 : ∀ u ∈ news, u.oneCell' = true)
    (h63 : n + m ≤ maxLen) (hbytes : (n + m) * bytes ≤ 140737488355328) (hbase : base ≤ w.heap.size)
    (h : ∀ v' w', w'.ownsRow base e size v' (n + m) (xs ++ news) → w.grownBy w' v.ownBlock → (v'.ownBlock = v.ownBlock ∨ v'.ownBlock = some w.heap.size) → wpList P ops Q rest (a.put o.dst v') w') : wpList P ops Q (o :: rest) a w :=
  wpList_plain hgd fun _ hK => wp_append_rd w s x t ho base e i z size bytes ht hi hz hsize hby hzs hsz v n xs hs hown B A m c news hx hr hl h1 h63 hbytes hbase fun v' w' h2 h3 h4 => hK _ _ (h v' w' h2 h3 h4)
end

theorem step_append_rd {P : Program} {ops : Array Oper} {o : Oper} {a : Act} {w : World} {K : Act → World → Prop} {Q : Exit → Act → World → Prop} {E : Prop}
    (hg : o.guard = none) (s x : Operand) (t : TypeId) (ho : o.op = .call { callee := .builtin .append, args := #[s, x], argTypes := #[t, t] })
    (base : Nat) (e : TypeId) (i : TypeInfo) (z : Value) (size bytes : Nat) (ht : P.underlying t = some (.slice e)) (hi : P.info? e = some i) (hz : i.zero = some z)
    (hsize : i.size = size) (hby : i.bytes = bytes) (hzs : z.cells.size = size) (hsz : 0 < size)
    (v : Value) (n : Nat) (xs : List Value) (hs : a.eval s = v) (hown : w.ownsRow base e size v n xs)
    (B : Nat) (A : Option Addr) (m c : Nat) (news : List Value) (hx : a.eval x = .slice A m c) (hr : Rd w B A news) (hl : news.length = m * size) (h1 : ∀ u ∈ news, u.oneCell' = true)
    (h63 : n + m ≤ maxLen) (hbytes : (n + m) * bytes ≤ 140737488355328) (hbase : base ≤ w.heap.size)
    (h : ∀ v' w', w'.ownsRow base e size v' (n + m) (xs ++ news) → w.grownBy w' v.ownBlock → (v'.ownBlock = v.ownBlock ∨ v'.ownBlock = some w.heap.size) → K (a.put o.dst v') w') :
    if Region.wanted o (yielded ops a.tmps) = true then Oper.wp P o a w K Q else E := by
  have hw : Region.wanted o (yielded ops a.tmps) = true := by simp [Region.wanted, hg]
  rw [if_pos hw]
  exact wp_append_rd w s x t ho base e i z size bytes ht hi hz hsize hby hzs hsz v n xs hs hown B A m c news hx hr hl h1 h63 hbytes hbase h
end Go.Proofs.Ytjdknddnanopaaa.Bus
