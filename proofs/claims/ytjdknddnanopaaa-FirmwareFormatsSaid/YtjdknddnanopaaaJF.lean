/-
  Several texts in one: J3, J4, U0, J5, J6, J7, K1, J8.
-/
import Derived.Test.YtjdknddnanopaaaJ2
import Derived.Test.YtjdknddnanopaaaF6
import Derived.Test.YtjdknddnanopaaaF3
import Derived.Test.YtjdknddnanopaaaRW83
import Derived.Deep.MidRow
import Derived.OrdersHeld
import Derived.Great.BuildSlice
import Derived.Deep.RegionWith
import Derived.Deep.DeepCutAuto
import Derived.Deep.CutBlock
import Derived.Deep.CutRange
import Derived.Test.YtjdknddnanopaaaGA
import Derived.Test.YtjdknddnanopaaaW56
import Derived.Deep.RegionHeld3
import Derived.Deep.WholeRow
/-
  The reference of layer 52: Format.
-/
namespace Go.Proofs.Ytjdknddnanopaaa
open Go.RowKit
set_option linter.unusedVariables false
set_option linter.unusedSimpArgs false

/-- Where the reference's Format stands: the box of the flash, that of the result. -/
structure Fm (X : Nat → Prop) (w wr : World) (y : Rc) (g : Fl) : Prop where
  below : Below w.heap.size w wr
  s1 : six wr w.heap.size (.slice y.A g.img.length y.c) (.int .i64 g.pg) (.slice y.B g.wear.length y.d) (.bool g.down) (.int .i64 g.fuse) (.slice y.P g.picks.length y.r)
  s2 : six wr (w.heap.size + 1) (.slice none 0 0) (.int .i64 0) (.slice none 0 0) (.bool false) (.int .i64 0) (.slice none 0 0)
  ra : RAt (X2 X w.heap.size) wr y g
  sz : w.heap.size + 1 < wr.heap.size
theorem Fm.later {X : Nat → Prop} {w wr w' : World} {y : Rc} {g : Fl} (h : Fm X w wr y g) (hb : Below wr.heap.size wr w') : Fm X w w' y g :=
  ⟨h.below.trans (hb.mono h.below.size), h.s1.below hb h.s1.lt, h.s2.below hb h.s2.lt, h.ra.below hb, Nat.lt_of_lt_of_le h.sz hb.size⟩
theorem Fm.new {X : Nat → Prop} {w W : World} {y : Rc} {g : Fl} (h : RAt X w y g) (hW : (w.alloc (.cells #[.slice y.A g.img.length y.c, .int .i64 g.pg, .slice y.B g.wear.length y.d, .bool g.down, .int .i64 g.fuse, .slice y.P g.picks.length y.r] 37)).alloc (.cells #[.slice none 0 0, .int .i64 0, .slice none 0 0, .bool false, .int .i64 0, .slice none 0 0] 37) = W) : Fm X w W y g := by
  subst hW
  obtain ⟨h1, h2⟩ := two_six w (.slice y.A g.img.length y.c) (.int .i64 g.pg) (.slice y.B g.wear.length y.d) (.bool g.down) (.int .i64 g.fuse) (.slice y.P g.picks.length y.r) (.slice none 0 0) (.int .i64 0) (.slice none 0 0) (.bool false) (.int .i64 0) (.slice none 0 0) 37 37
  exact ⟨below_two _ _ _, h1, h2, h.two.below (below_two _ _ _), h2.lt⟩
theorem Fm.put {X : Nat → Prop} {w wr w' V : World} {y z : Rc} {g g' : Fl} (h : Fm X w wr y g) (hb : Below wr.heap.size wr w') (hr : RAt (X2 X w.heap.size) w' z g') (hV : put6 w' w.heap.size (.slice z.A g'.img.length z.c) (.int .i64 g'.pg) (.slice z.B g'.wear.length z.d) (.bool g'.down) (.int .i64 g'.fuse) (.slice z.P g'.picks.length z.r) = V) : Fm X w V z g' := by
  subst hV
  have h' := h.later hb
  exact ⟨below_put6 h'.below (Nat.le_refl _) _ _ _ _ _ _, h'.s1.put _ _ _ _ _ _, h'.s2.far (by omega) _ _ _ _ _ _, hr.put6 (x2_zero _ _) _ _ _ _ _ _, by rw [put6_size]; exact h'.sz⟩
theorem Fm.xlt {X : Nat → Prop} {w wr : World} {y : Rc} {g : Fl} (h : Fm X w wr y g) (hX : ∀ b, X b → b < w.heap.size) : ∀ b, X2 X w.heap.size b → b < wr.heap.size := x2_lt hX h.sz

/-- What the reference's Format leaves. -/
def RFM (X : Nat → Prop) (w : World) (G : Fl) (code : Int) (e : Ending) (w' : World) : Prop :=
  ∃ y : Rc, e = .returned (.tuple #[y.v G, .int .i64 code]) ∧ RAt X w' y G ∧ Below w.heap.size w w'

set_option maxRecDepth 100000 in
set_option maxHeartbeats 8000000 in
theorem rfmt_no1 {X : Nat → Prop} {w : World} {x : Rc} {g : Fl} (h : RAt X w x g) (hX : ∀ b, X b → b < w.heap.size) (first blocks v : Int) (hf1 : I64 first) (hb1 : I64 blocks) (A : Option Addr) (n c : Nat) (hE : regE g first blocks ≠ 0) :
    Calls Try.prog 19 #[x.v g, .int .i64 first, .int .i64 blocks, .int .i64 v, .slice A n c] w (RFM X w g (regE g first blocks)) := by
  obtain ⟨W, hW⟩ : ∃ W, (w.alloc (.cells #[.slice x.A g.img.length x.c, .int .i64 g.pg, .slice x.B g.wear.length x.d, .bool g.down, .int .i64 g.fuse, .slice x.P g.picks.length x.r] 37)).alloc (.cells #[.slice none 0 0, .int .i64 0, .slice none 0 0, .bool false, .int .i64 0, .slice none 0 0] 37) = W := ⟨_, rfl⟩
  have HM := Lib.hid (Fm.new h hW)
  have HR := Lib.hid (fun w2 => rregion_r h first blocks hf1 hb1 w2)
  obtain ⟨k, hk⟩ : ∃ k, regE g first blocks = k := ⟨_, rfl⟩
  rw [hk] at HR hE ⊢
  have hk0 : (k != 0) = true := by simpa using hE
  obtain ⟨a0, a1, a2, a3, a4, a5, -⟩ := HM.out.s1
  have hsz := HM.out.sz
  unfold RFM
  obtain ⟨A0, c0, B, d, P, r⟩ := x
  simp only [Rc.v] at HR ⊢
  obtain ⟨ni, hni⟩ : ∃ n, g.img.length = n := ⟨_, rfl⟩
  obtain ⟨nw, hnw⟩ : ∃ n, g.wear.length = n := ⟨_, rfl⟩
  obtain ⟨np, hnp⟩ : ∃ n, g.picks.length = n := ⟨_, rfl⟩
  simp only [hni, hnw, hnp] at HR hW a0 a1 a2 a3 a4 a5 ⊢
  clear h hX hk hE
  go_enter Try.func19, Try.ntmps19
  go_wp2_with (fail)
  try rw [hW]
  clear hW a0 a1 a2 a3 a4 a5
  (with_reducible refine (HR.out W).mono ?_)
  rintro e w2 ⟨rfl, hb⟩
  have HM2 := Lib.hid (HM.out.later hb)
  have hsz2 := HM2.out.sz
  clear hb hsz
  simp only
  obtain ⟨a0, a1, a2, a3, a4, a5, a6⟩ := HM2.out.s1
  obtain ⟨b0, b1, b2, b3, b4, b5, b6⟩ := HM2.out.s2
  simp only [hni, hnw, hnp] at a0 a1 a2 a3 a4 a5
  have e0 := b6 0
  have e1 := b6 1
  have e2 := b6 2
  have e3 := b6 3
  have e4 := b6 4
  have e5 := b6 5
  clear a6 b6
  go_wp2
  (try simp only [Exit.inBlock, Exit.then])
  refine bodyPost_ret (v := .tuple #[.agg #[.slice A0 ni c0, .int .i64 g.pg, .slice B nw d, .bool g.down, .int .i64 g.fuse, .slice P np r], .int .i64 k]) ?_ rfl ⟨⟨A0, c0, B, d, P, r⟩, by simp only [hni, hnw, hnp], RAt.weak (X := X2 X w.heap.size) ?_ (fun _ => .inl), ?_⟩
  · rw [results_cell_tmp rfl]
    go_simp
  · (repeat (refine RAt.setCell ?_ _ _ (by first | exact x2_zero _ _ | exact x2_one _ _)))
    exact HM2.out.ra
  · (repeat (refine Below.setCell ?_ (by simp only; omega) _))
    exact HM2.out.below
set_option maxRecDepth 100000 in
set_option maxHeartbeats 8000000 in
theorem rfmt_no2 {X : Nat → Prop} {w : World} {x : Rc} {g : Fl} (h : RAt X w x g) (hX : ∀ b, X b → b < w.heap.size) (first blocks v : Int) (A : Option Addr) (n c : Nat) (hnm : n ≤ maxLen) (hE : regE g first blocks = 0) (hv : ¬ (1 ≤ v ∧ v ≤ 1073741824) ∨ ¬ (1 ≤ n ∧ n ≤ sizeF g blocks.toNat)) :
    Calls Try.prog 19 #[x.v g, .int .i64 first, .int .i64 blocks, .int .i64 v, .slice A n c] w (RFM X w g 3) := by
  obtain ⟨hdn, a, k, hfa, hbl, k1, k8, hw, -⟩ := regE_zero hE
  have hwl : g.wear.length ≤ 64 := h.ok.b2
  obtain ⟨W, hW⟩ : ∃ W, (w.alloc (.cells #[.slice x.A g.img.length x.c, .int .i64 g.pg, .slice x.B g.wear.length x.d, .bool g.down, .int .i64 g.fuse, .slice x.P g.picks.length x.r] 37)).alloc (.cells #[.slice none 0 0, .int .i64 0, .slice none 0 0, .bool false, .int .i64 0, .slice none 0 0] 37) = W := ⟨_, rfl⟩
  have HM := Lib.hid (Fm.new h hW)
  have HR := Lib.hid (fun w2 => rregion_r h first blocks (by unfold I64; omega) (by unfold I64; omega) w2)
  rw [hE] at HR
  have HSZ := Lib.hid (fun w2 => rsize_r h k k8 blocks hbl w2)
  have hbn : blocks.toNat = 2 * k + 2 := by omega
  rw [hbn] at hv
  have hszl := sizeF_le h.ok k8
  obtain ⟨N, hN⟩ : ∃ N, sizeF g (2 * k + 2) = N := ⟨_, rfl⟩
  rw [hN] at HSZ hv hszl
  obtain ⟨a0, a1, a2, a3, a4, a5, -⟩ := HM.out.s1
  have hsz := HM.out.sz
  unfold maxLen at hnm
  unfold RFM
  obtain ⟨A0, c0, B, d, P, r⟩ := x
  simp only [Rc.v] at HR HSZ ⊢
  obtain ⟨ni, hni⟩ : ∃ n, g.img.length = n := ⟨_, rfl⟩
  obtain ⟨nw, hnw⟩ : ∃ n, g.wear.length = n := ⟨_, rfl⟩
  obtain ⟨np, hnp⟩ : ∃ n, g.picks.length = n := ⟨_, rfl⟩
  simp only [hni, hnw, hnp] at HR HSZ hW a0 a1 a2 a3 a4 a5 ⊢
  clear h hX hE hdn hfa hbl hw hbn hN
  by_cases h1 : v < 1
  · clear hv HSZ
    go_enter Try.func19, Try.ntmps19
    go_wp2_with (fail)
    try rw [hW]
    clear hW a0 a1 a2 a3 a4 a5
    (with_reducible refine (HR.out W).mono ?_)
    rintro e w2 ⟨rfl, hb⟩
    have HM2 := Lib.hid (HM.out.later hb)
    clear hb hsz
    have hsz9 := HM2.out.sz
    simp only
    obtain ⟨a0, a1, a2, a3, a4, a5, a6⟩ := HM2.out.s1
    obtain ⟨b0, b1, b2, b3, b4, b5, b6⟩ := HM2.out.s2
    simp only [hni, hnw, hnp] at a0 a1 a2 a3 a4 a5
    have e0 := b6 0
    have e1 := b6 1
    have e2 := b6 2
    have e3 := b6 3
    have e4 := b6 4
    have e5 := b6 5
    clear a6 b6
    go_wp2
    (try simp only [Exit.inBlock, Exit.then])
    refine bodyPost_ret (v := .tuple #[.agg #[.slice A0 ni c0, .int .i64 g.pg, .slice B nw d, .bool g.down, .int .i64 g.fuse, .slice P np r], .int .i64 3]) ?_ rfl ⟨⟨A0, c0, B, d, P, r⟩, by simp only [hni, hnw, hnp], RAt.weak (X := X2 X w.heap.size) ?_ (fun _ => .inl), ?_⟩
    · rw [results_cell_tmp rfl]
      go_simp
    · (repeat (refine RAt.setCell ?_ _ _ (by first | exact x2_zero _ _ | exact x2_one _ _)))
      exact HM2.out.ra
    · (repeat (refine Below.setCell ?_ (by simp only; omega) _))
      exact HM2.out.below
  by_cases h2 : 1073741824 < v
  · clear hv HSZ
    go_enter Try.func19, Try.ntmps19
    go_wp2_with (fail)
    try rw [hW]
    clear hW a0 a1 a2 a3 a4 a5
    (with_reducible refine (HR.out W).mono ?_)
    rintro e w2 ⟨rfl, hb⟩
    have HM2 := Lib.hid (HM.out.later hb)
    clear hb hsz
    have hsz9 := HM2.out.sz
    simp only
    obtain ⟨a0, a1, a2, a3, a4, a5, a6⟩ := HM2.out.s1
    obtain ⟨b0, b1, b2, b3, b4, b5, b6⟩ := HM2.out.s2
    simp only [hni, hnw, hnp] at a0 a1 a2 a3 a4 a5
    have e0 := b6 0
    have e1 := b6 1
    have e2 := b6 2
    have e3 := b6 3
    have e4 := b6 4
    have e5 := b6 5
    clear a6 b6
    go_wp2
    (try simp only [Exit.inBlock, Exit.then])
    refine bodyPost_ret (v := .tuple #[.agg #[.slice A0 ni c0, .int .i64 g.pg, .slice B nw d, .bool g.down, .int .i64 g.fuse, .slice P np r], .int .i64 3]) ?_ rfl ⟨⟨A0, c0, B, d, P, r⟩, by simp only [hni, hnw, hnp], RAt.weak (X := X2 X w.heap.size) ?_ (fun _ => .inl), ?_⟩
    · rw [results_cell_tmp rfl]
      go_simp
    · (repeat (refine RAt.setCell ?_ _ _ (by first | exact x2_zero _ _ | exact x2_one _ _)))
      exact HM2.out.ra
    · (repeat (refine Below.setCell ?_ (by simp only; omega) _))
      exact HM2.out.below
  by_cases h3 : (n : Int) < 1
  · clear hv HSZ
    go_enter Try.func19, Try.ntmps19
    go_wp2_with (fail)
    try rw [hW]
    clear hW a0 a1 a2 a3 a4 a5
    (with_reducible refine (HR.out W).mono ?_)
    rintro e w2 ⟨rfl, hb⟩
    have HM2 := Lib.hid (HM.out.later hb)
    clear hb hsz
    have hsz9 := HM2.out.sz
    simp only
    obtain ⟨a0, a1, a2, a3, a4, a5, a6⟩ := HM2.out.s1
    obtain ⟨b0, b1, b2, b3, b4, b5, b6⟩ := HM2.out.s2
    simp only [hni, hnw, hnp] at a0 a1 a2 a3 a4 a5
    have e0 := b6 0
    have e1 := b6 1
    have e2 := b6 2
    have e3 := b6 3
    have e4 := b6 4
    have e5 := b6 5
    clear a6 b6
    go_wp2
    (try simp only [Exit.inBlock, Exit.then])
    refine bodyPost_ret (v := .tuple #[.agg #[.slice A0 ni c0, .int .i64 g.pg, .slice B nw d, .bool g.down, .int .i64 g.fuse, .slice P np r], .int .i64 3]) ?_ rfl ⟨⟨A0, c0, B, d, P, r⟩, by simp only [hni, hnw, hnp], RAt.weak (X := X2 X w.heap.size) ?_ (fun _ => .inl), ?_⟩
    · rw [results_cell_tmp rfl]
      go_simp
    · (repeat (refine RAt.setCell ?_ _ _ (by first | exact x2_zero _ _ | exact x2_one _ _)))
      exact HM2.out.ra
    · (repeat (refine Below.setCell ?_ (by simp only; omega) _))
      exact HM2.out.below
  have h4 : (N : Int) < (n : Int) := by omega
  clear hv
  go_enter Try.func19, Try.ntmps19
  go_wp2_with (fail)
  try rw [hW]
  clear hW a0 a1 a2 a3 a4 a5
  (with_reducible refine (HR.out W).mono ?_)
  rintro e w2 ⟨rfl, hb⟩
  have HM2 := Lib.hid (HM.out.later hb)
  clear hb hsz
  simp only
  obtain ⟨a0, a1, a2, a3, a4, a5, a6⟩ := HM2.out.s1
  simp only [hni, hnw, hnp] at a0 a1 a2 a3 a4 a5
  clear a6
  go_wp2_with (fail)
  (with_reducible refine (HSZ.out w2).mono ?_)
  rintro e w3 ⟨rfl, hb⟩
  have HM3 := Lib.hid (HM2.out.later hb)
  clear hb a0 a1 a2 a3 a4 a5
  have hsz9 := HM3.out.sz
  simp only
  obtain ⟨a0, a1, a2, a3, a4, a5, a6⟩ := HM3.out.s1
  obtain ⟨b0, b1, b2, b3, b4, b5, b6⟩ := HM3.out.s2
  simp only [hni, hnw, hnp] at a0 a1 a2 a3 a4 a5
  have e0 := b6 0
  have e1 := b6 1
  have e2 := b6 2
  have e3 := b6 3
  have e4 := b6 4
  have e5 := b6 5
  clear a6 b6
  go_wp2
  (try simp only [Exit.inBlock, Exit.then])
  refine bodyPost_ret (v := .tuple #[.agg #[.slice A0 ni c0, .int .i64 g.pg, .slice B nw d, .bool g.down, .int .i64 g.fuse, .slice P np r], .int .i64 3]) ?_ rfl ⟨⟨A0, c0, B, d, P, r⟩, by simp only [hni, hnw, hnp], RAt.weak (X := X2 X w.heap.size) ?_ (fun _ => .inl), ?_⟩
  · rw [results_cell_tmp rfl]
    go_simp
  · (repeat (refine RAt.setCell ?_ _ _ (by first | exact x2_zero _ _ | exact x2_one _ _)))
    exact HM3.out.ra
  · (repeat (refine Below.setCell ?_ (by simp only; omega) _))
    exact HM3.out.below
end Go.Proofs.Ytjdknddnanopaaa

/-
  The reference of layer 52: what Format keeps beside a store that it opened.
-/
namespace Go.Proofs.Ytjdknddnanopaaa
open Go.RowKit
set_option linter.unusedVariables false
set_option linter.unusedSimpArgs false

theorem six.onlyX2 {X : Nat → Prop} {w w' : World} {B : Nat} {a b c d e f : Value} (h : six w B a b c d e f) (k : OnlyX X w w') (hB : ¬ X B) : six w' B a b c d e f := by
  have e := k.block B h.lt hB
  exact ⟨(cell_of_block e).trans h.1, (cell_of_block e).trans h.2.1, (cell_of_block e).trans h.2.2.1, (cell_of_block e).trans h.2.2.2.1, (cell_of_block e).trans h.2.2.2.2.1, (cell_of_block e).trans h.2.2.2.2.2.1, fun j => (frozen_of_block e).trans (h.2.2.2.2.2.2 j)⟩
def XB (X : Nat → Prop) (B b : Nat) : Prop := X b ∨ b = B
abbrev stA (q : Qv) (s : St) : Array Value := #[.int .i64 s.first, .int .i64 s.blocks, .slice q.Q1 s.spec.length q.c1, .slice q.Q2 s.staged.length q.c2, .slice q.Q3 s.saved.length q.c3, .int .i64 s.seq, .int .i64 s.block, .int .i64 s.slot, .slice q.Q4 q.n4 q.c4, .slice q.Q5 q.n5 q.c5, .int .i64 q.pg, .int .i64 q.er, .int .i64 q.nb, .int .i64 q.ns, .bool s.broken]
/-- The boxes of the flash and of the result, and that of a store. -/
structure Ft (X : Nat → Prop) (w wr : World) (y : Rc) (g : Fl) (B5 : Nat) (q : Qv) (s : St) : Prop where
  fm : Fm (XB X B5) w wr y g
  row : wr.heap[B5]? = some (.cells (stA q s) 46 (0, 0))
  rv : RvA (X2 (XB X B5) w.heap.size) wr q s g.pg
  lt : w.heap.size + 1 < B5
theorem Ft.blt {X : Nat → Prop} {w wr : World} {y : Rc} {g : Fl} {B5 : Nat} {q : Qv} {s : St} (h : Ft X w wr y g B5 q s) : B5 < wr.heap.size := (Array.getElem?_eq_some_iff.1 h.row).1
theorem Ft.later {X : Nat → Prop} {w wr w' : World} {y : Rc} {g : Fl} {B5 : Nat} {q : Qv} {s : St} (h : Ft X w wr y g B5 q s) (hb : Below wr.heap.size wr w') : Ft X w w' y g B5 q s :=
  ⟨h.fm.later hb, (hb.block _ h.blt).trans h.row, h.rv.below hb, h.lt⟩
theorem Ft.xlt {X : Nat → Prop} {w wr : World} {y : Rc} {g : Fl} {B5 : Nat} {q : Qv} {s : St} (h : Ft X w wr y g B5 q s) (hX : ∀ b, X b → b < w.heap.size) : ∀ b, X2 (XB X B5) w.heap.size b → b < wr.heap.size := fun b hb => by
  have h1 := h.blt
  have h2 := h.lt
  rcases hb with (hb | hb) | hb | hb
  · have := hX b hb; omega
  · omega
  · omega
  · omega
/-- The store's box is stored anew. -/
theorem Ft.put {X : Nat → Prop} {w wr w' : World} {y : Rc} {g : Fl} {B5 : Nat} {q q' : Qv} {s s' : St} (h : Ft X w wr y g B5 q s) (hb : Below wr.heap.size wr w') (hv : RvA (X2 (XB X B5) w.heap.size) w' q' s' g.pg) : Ft X w (w'.setRow B5 (stA q' s')) y g B5 q' s' := by
  have h1 := h.later hb
  have h2 := h.lt
  have hx : X2 (XB X B5) w.heap.size B5 := .inl (.inr rfl)
  have ho := OnlyX.row (X := fun b => b = B5) w' B5 (stA q' s') rfl
  have ho2 := OnlyX.row (X := X2 (XB X B5) w.heap.size) w' B5 (stA q' s') hx
  refine ⟨⟨below_setRow h1.fm.below (by omega) _, h1.fm.s1.onlyX2 ho (by omega), h1.fm.s2.onlyX2 ho (by omega), h1.fm.ra.onlyX ho2, by rw [size_setRow]; exact h1.fm.sz⟩, setRow_heap _ _ _ _ _ _ h1.row, hv.onlyX ho2, h.lt⟩
/-- The store was opened, and laid into a new box. -/
theorem Ft.new {X : Nat → Prop} {w wr w' W : World} {y : Rc} {g : Fl} {B5 M : Nat} {q : Qv} {s : St} (h : Fm X w wr y g) (hb : Below wr.heap.size wr w') (hB : wr.heap.size ≤ B5) (hv : RvA (XW (X2 X w.heap.size) wr.heap.size M) w' q s g.pg) (hBM : B5 < M ∨ w'.heap.size ≤ B5)
    (ho : OnlyX (fun b => b = B5) w' W) (hbW : Below wr.heap.size wr W) (hrow : W.heap[B5]? = some (.cells (stA q s) 46 (0, 0))) : Ft X w W y g B5 q s := by
  have hsz := h.sz
  have hY : ∀ b, b < wr.heap.size → X2 (XB X B5) w.heap.size b → X2 X w.heap.size b := fun b hlt hx => by
    rcases hx with (hx | hx) | hx | hx
    · exact .inl hx
    · omega
    · exact .inr (.inl hx)
    · exact .inr (.inr hx)
  have hra : RAt (X2 (XB X B5) w.heap.size) wr y g := ⟨h.ra.ok, h.ra.a.newX hY, h.ra.a1, h.ra.a2, h.ra.b.newX hY, h.ra.b1, h.ra.b2, h.ra.p.newX hY, h.ra.p1, h.ra.p2⟩
  have hx : X2 (XB X B5) w.heap.size B5 := .inl (.inr rfl)
  have ho2 : OnlyX (X2 (XB X B5) w.heap.size) w' W := ho.more (fun b hb => by subst hb; exact hx)
  have hv2 : RvA (X2 (XB X B5) w.heap.size) w' q s g.pg := hv.newX (fun b hlt hx => by
    rcases hx with (hx | hx) | hx | hx
    · exact .inl (.inl hx)
    · rcases hBM with h1 | h1
      · exact .inr ⟨by omega, by omega⟩
      · omega
    · exact .inl (.inr (.inl hx))
    · exact .inl (.inr (.inr hx)))
  have h1 := h.later hb
  refine ⟨⟨h.below.trans (hbW.mono h.below.size), h.s1.below hbW h.s1.lt, h.s2.below hbW h.s2.lt, hra.below hbW, Nat.lt_of_lt_of_le h.sz hbW.size⟩, hrow, hv2.onlyX ho2, by omega⟩
end Go.Proofs.Ytjdknddnanopaaa

/-
  Boxes of a call: blocks that it makes at its start, each a row; laws on whole rows in them.
-/
namespace Go.Proofs.Ytjdknddnanopaaa
open Go.RowKit
set_option linter.unusedVariables false
set_option linter.unusedSimpArgs false

theorem z46 {C : Array Value} (h : C.size = 15) : (Try.prog.info? 46).map (·.size) = some C.size := by
  rw [h]
  kernel_rfl
theorem z37 {C : Array Value} (h : C.size = 6) : (Try.prog.info? 37).map (·.size) = some C.size := by
  rw [h]
  kernel_rfl

theorem setCell_row {w : World} {g : Nat} {C : Array Value} {t : TypeId} {fr : Nat × Nat} (h : w.heap[g]? = some (.cells C t fr)) (j : Nat) (v : Value) : w.setCell ⟨g, j, none⟩ v = w.setRow g (C.setIfInBounds j v) := by
  unfold World.setCell World.setRow
  congr 1
  apply Array.ext_getElem?
  intro i
  simp only [Array.getElem?_modify]
  by_cases hi : g = i
  · subst hi
    rw [h]
    rfl
  · simp only [if_neg hi]
section
variable {ops : Array Oper} {rest : List Oper} {o : Oper} {a : Go.Act} {w : World} {Q : Exit → Go.Act → World → Prop}
theorem ld37 (hgd : o.guard = none) (x : Operand) (ho : o.op = .load 37 x) (g : Nat) (hx : a.eval x = .pointer (some ⟨g, 0, none⟩)) (C : Array Value) (hg : w.heap[g]? = some (.cells C 37 (0, 0))) (hs : C.size = 6)
    (h : wpList Try.prog ops Q rest (a.put o.dst (.agg C)) w) : wpList Try.prog ops Q (o :: rest) a w :=
  wpList_load_row hgd 37 x ho g hx 37 C (0, 0) _ hg Try.underlying37 rfl (z37 hs) h
theorem st37 (hgd : o.guard = none) (x y : Operand) (ho : o.op = .store 37 x y) (hd : o.dst = none) (g : Nat) (C : Array Value) (hx : a.eval x = .pointer (some ⟨g, 0, none⟩)) (hy : a.eval y = .agg C) (old : Array Value) (hg : w.heap[g]? = some (.cells old 37 (0, 0))) (hs : C.size = 6) (hold : old.size = 6) (h1 : C.all (·.oneCell') = true)
    (h : wpList Try.prog ops Q rest a (w.setRow g C)) : wpList Try.prog ops Q (o :: rest) a w :=
  wpList_store_rowTo hgd 37 x y ho hd g C hx hy 37 old hg (z37 hs) (hold.trans hs.symm) h1 h
end

section
variable {ops : Array Oper} {op : Oper} {a : Go.Act} {S : World → Prop}
theorem yl37 (hw : Region.wanted op (yielded ops a.tmps) = true) (x : Operand) (ho : op.op = .load 37 x) (g : Nat) (hx : a.eval x = .pointer (some ⟨g, 0, none⟩)) (C : Array Value) (hS : ∀ w, S w → w.heap[g]? = some (.cells C 37 (0, 0))) (hs : C.size = 6) : YieldsIf Try.prog ops S op (.agg C) a :=
  yieldsIf_load_row hw 37 x ho g hx 37 C (0, 0) _ hS Try.underlying37 rfl (z37 hs)
theorem yv {v : Value} (hw : Region.wanted op (yielded ops a.tmps) = true) (he : ∀ w, (execOp a.eval op).run Try.prog w = .ok (.value v) w) : YieldsIf Try.prog ops S op v a := .inl ⟨hw, fun w _ => he w⟩
end
/-- Blocks made at a call's start. -/
structure Fr (w wr : World) (l : List (Array Value × TypeId)) : Prop where
  below : Below w.heap.size w wr
  len : w.heap.size + l.length ≤ wr.heap.size
  row : ∀ i C t, l[i]? = some (C, t) → wr.heap[w.heap.size + i]? = some (.cells C t (0, 0))
section
variable {w wr w' : World} {l : List (Array Value × TypeId)}
theorem Fr.push (h : Fr w wr l) (hs : wr.heap.size = w.heap.size + l.length) (C : Array Value) (t : TypeId) : Fr w (wr.alloc (.cells C t)) (l ++ [(C, t)]) ∧ (wr.alloc (.cells C t)).heap.size = w.heap.size + (l ++ [(C, t)]).length := by
  have e : (wr.alloc (.cells C t)).heap.size = wr.heap.size + 1 := Array.size_push _
  refine ⟨⟨h.below.alloc h.below.size _, by rw [e, List.length_append]; simp; omega, fun i D u hi => ?_⟩, by rw [e, List.length_append]; simp; omega⟩
  by_cases hl : i < l.length
  · rw [List.getElem?_append_left hl] at hi
    rw [Below.heap_alloc wr _ _ (by omega)]
    exact h.row i D u hi
  · rw [List.getElem?_append_right (by omega)] at hi
    have h0 : i - l.length = 0 := by
      have := (List.getElem?_eq_some_iff.1 hi).1
      simp at this
      omega
    rw [h0] at hi
    simp only [List.getElem?_cons_zero, Option.some.injEq, Prod.mk.injEq] at hi
    obtain ⟨rfl, rfl⟩ := hi
    rw [show w.heap.size + i = wr.heap.size by omega]
    exact heap_alloc_new wr _
theorem Fr.nil (w : World) : Fr w w [] := ⟨Below.refl _ _, Nat.le_refl _, fun i C t h => by simp at h⟩
theorem Fr.one {A : Array Value} {a : TypeId} (h : w.alloc (.cells A a) = wr) : Fr w wr [(A, a)] := by
  obtain ⟨h1, s1⟩ := (Fr.nil w).push rfl A a
  rw [← h]
  exact h1
theorem Fr.two {A B : Array Value} {a b : TypeId} (h : (w.alloc (.cells A a)).alloc (.cells B b) = wr) : Fr w wr [(A, a), (B, b)] := by
  obtain ⟨h1, s1⟩ := (Fr.nil w).push rfl A a
  obtain ⟨h2, s2⟩ := h1.push s1 B b
  rw [← h]
  exact h2
theorem Fr.three {A B C : Array Value} {a b c : TypeId} (h : ((w.alloc (.cells A a)).alloc (.cells B b)).alloc (.cells C c) = wr) : Fr w wr [(A, a), (B, b), (C, c)] := by
  obtain ⟨h1, s1⟩ := (Fr.nil w).push rfl A a
  obtain ⟨h2, s2⟩ := h1.push s1 B b
  obtain ⟨h3, s3⟩ := h2.push s2 C c
  rw [← h]
  exact h3
theorem Fr.four {A B C D : Array Value} {a b c d : TypeId} (h : (((w.alloc (.cells A a)).alloc (.cells B b)).alloc (.cells C c)).alloc (.cells D d) = wr) : Fr w wr [(A, a), (B, b), (C, c), (D, d)] := by
  obtain ⟨h1, s1⟩ := (Fr.nil w).push rfl A a
  obtain ⟨h2, s2⟩ := h1.push s1 B b
  obtain ⟨h3, s3⟩ := h2.push s2 C c
  obtain ⟨h4, s4⟩ := h3.push s3 D d
  rw [← h]
  exact h4
theorem Fr.lt (h : Fr w wr l) {i : Nat} {C : Array Value} {t : TypeId} (hi : l[i]? = some (C, t)) : w.heap.size + i < wr.heap.size := (Array.getElem?_eq_some_iff.1 (h.row i C t hi)).1
theorem Fr.later (h : Fr w wr l) (hb : Below wr.heap.size wr w') : Fr w w' l :=
  ⟨h.below.trans (hb.mono h.below.size), Nat.le_trans h.len hb.size, fun i C t hi => (hb.block _ (h.lt hi)).trans (h.row i C t hi)⟩
theorem Fr.put (h : Fr w wr l) (i : Nat) (C : Array Value) {D : Array Value} {t : TypeId} (hi : l[i]? = some (D, t)) {l' : List (Array Value × TypeId)} (hl : l.set i (C, t) = l') : Fr w (wr.setRow (w.heap.size + i) C) l' := by
  subst hl
  refine ⟨below_setRow h.below (Nat.le_add_right _ _) _, by rw [List.length_set, size_setRow]; exact h.len, fun j E u hj => ?_⟩
  rw [List.getElem?_set] at hj
  by_cases hij : i = j
  · subst hij
    rw [if_pos rfl, if_pos (List.getElem?_eq_some_iff.1 hi).1] at hj
    simp only [Option.some.injEq, Prod.mk.injEq] at hj
    obtain ⟨rfl, rfl⟩ := hj
    exact setRow_heap _ _ D _ t _ (h.row i D t hi)
  · rw [if_neg hij] at hj
    rw [setRow_other _ _ _ _ (by omega)]
    exact h.row j E u hj
theorem Fr.cell (h : Fr w wr l) (i j : Nat) {C : Array Value} {t : TypeId} (hi : l[i]? = some (C, t)) {v : Value} (hj : C[j]? = some v) : wr.cell? ⟨w.heap.size + i, j, none⟩ = some v := (cell_of_row wr _ j C t (0, 0) (h.row i C t hi)).trans hj
theorem Fr.fz (h : Fr w wr l) (i j : Nat) {C : Array Value} {t : TypeId} (hi : l[i]? = some (C, t)) : wr.frozen? ⟨w.heap.size + i, j, none⟩ = false := frozen_of_row wr _ j C t (h.row i C t hi)
theorem Fr.set (h : Fr w wr l) (i j : Nat) {C : Array Value} {t : TypeId} (hi : l[i]? = some (C, t)) (v : Value) {l' : List (Array Value × TypeId)} (hl : l.set i (C.setIfInBounds j v, t) = l') : Fr w (wr.setCell ⟨w.heap.size + i, j, none⟩ v) l' := by
  rw [setCell_row (h.row i C t hi)]
  exact h.put i _ hi hl
end
section
variable {w wr : World} {l : List (Array Value × TypeId)} {C : Array Value} {t : TypeId}
theorem Fr.row0 (h : Fr w wr ((C, t)::l)) : wr.heap[w.heap.size]? = some (.cells C t (0, 0)) := h.row 0 C t rfl
theorem Fr.put0 (h : Fr w wr ((C, t)::l)) (D : Array Value) : Fr w (wr.setRow w.heap.size D) ((D, t)::l) := h.put 0 D (t := t) rfl rfl
theorem Fr.cell0 (h : Fr w wr ((C, t)::l)) (j : Nat) {v : Value} (hj : C[j]? = some v) : wr.cell? ⟨w.heap.size, j, none⟩ = some v := h.cell 0 j (t := t) rfl hj
theorem Fr.set0 (h : Fr w wr ((C, t)::l)) (j : Nat) (v : Value) : Fr w (wr.setCell ⟨w.heap.size, j, none⟩ v) ((C.setIfInBounds j v, t)::l) := h.set 0 j (t := t) rfl v rfl
theorem Fr.row1 {x0 : Array Value × TypeId} (h : Fr w wr (x0::(C, t)::l)) : wr.heap[(w.heap.size + 1)]? = some (.cells C t (0, 0)) := h.row 1 C t rfl
theorem Fr.put1 {x0 : Array Value × TypeId} (h : Fr w wr (x0::(C, t)::l)) (D : Array Value) : Fr w (wr.setRow (w.heap.size + 1) D) (x0::(D, t)::l) := h.put 1 D (t := t) rfl rfl
theorem Fr.set1 {x0 : Array Value × TypeId} (h : Fr w wr (x0::(C, t)::l)) (j : Nat) (v : Value) : Fr w (wr.setCell ⟨(w.heap.size + 1), j, none⟩ v) (x0::(C.setIfInBounds j v, t)::l) := h.set 1 j (t := t) rfl v rfl
theorem Fr.set2 {x0 x1 : Array Value × TypeId} (h : Fr w wr (x0::x1::(C, t)::l)) (j : Nat) (v : Value) : Fr w (wr.setCell ⟨(w.heap.size + 2), j, none⟩ v) (x0::x1::(C.setIfInBounds j v, t)::l) := h.set 2 j (t := t) rfl v rfl
theorem Fr.set3 {x0 x1 x2 : Array Value × TypeId} (h : Fr w wr (x0::x1::x2::(C, t)::l)) (j : Nat) (v : Value) : Fr w (wr.setCell ⟨(w.heap.size + 3), j, none⟩ v) (x0::x1::x2::(C.setIfInBounds j v, t)::l) := h.set 3 j (t := t) rfl v rfl
end
abbrev zF : Array Value := #[.slice none 0 0, .int .i64 0, .slice none 0 0, .bool false, .int .i64 0, .slice none 0 0]
/-- The blocks of a call beside those that are not its own. -/
def XF (X : Nat → Prop) (N k : Nat) (b : Nat) : Prop := X b ∨ (N ≤ b ∧ b < N + k)
section
variable {X : Nat → Prop} {w w' : World}
theorem XF.lt {N k M : Nat} (h : ∀ b, X b → b < N) (hM : N + k ≤ M) : ∀ b, XF X N k b → b < M := fun b hb => by
  rcases hb with hb | hb
  · have := h b hb
    omega
  · omega
theorem xf_new (k : Nat) : ∀ b, b < w.heap.size → XF X w.heap.size k b → X b := fun b hb hx => by
  rcases hx with hx | hx
  · exact hx
  · omega
theorem xf0 (X : Nat → Prop) (N : Nat) {k : Nat} : XF X N (k + 1) N := .inr ⟨Nat.le_refl _, by omega⟩
theorem xf1 (X : Nat → Prop) (N : Nat) {k : Nat} : XF X N (k + 2) (N + 1) := .inr ⟨by omega, by omega⟩
theorem RAt.newX9 {Y : Nat → Prop} {x : Rc} {g : Fl} (h : RAt X w x g) (hY : ∀ b, b < w.heap.size → Y b → X b) : RAt Y w x g :=
  ⟨h.ok, h.a.newX hY, h.a1, h.a2, h.b.newX hY, h.b1, h.b2, h.p.newX hY, h.p1, h.p2⟩
theorem RdX.xf {A : Option Addr} {xs : List Value} (h : RdX X w A xs) (hb : Below w.heap.size w w') (k : Nat) : RdX (XF X w.heap.size k) w' A xs := (h.newX (xf_new k)).below hb
theorem RAt.xf {x : Rc} {g : Fl} (h : RAt X w x g) (hb : Below w.heap.size w w') (k : Nat) : RAt (XF X w.heap.size k) w' x g := (h.newX9 (xf_new k)).onlyX (.of_below hb)
theorem RvA.xf {q : Qv} {s : St} {p : Nat} (h : RvA X w q s p) (hb : Below w.heap.size w w') (k : Nat) : RvA (XF X w.heap.size k) w' q s p := (h.newX (xf_new k)).below hb
end
section
variable {P : Program} {ops : Array Oper} {Q : Exit → Go.Act → World → Prop} {md : Region.Mode} {S : World → Prop} {fuel : Nat} {listed : Array Bool} {a : Go.Act} {w : World}
/-- One, two or three operations may come up next. -/
theorem wpAnyH_one {i : Nat} (hr : Region.ready md ops listed = [i]) (h : wpOp P ops Q i (fun a' w' => S w' ∧ wpAnyH P md ops Q S fuel (listed.setIfInBounds i true) a' w') a w) : wpAnyH P md ops Q S (fuel + 1) listed a w := by
  refine wpAnyH_all hr (by simp) (fun k hk => ?_)
  simp only [List.mem_cons, List.not_mem_nil, or_false] at hk
  subst hk
  exact h
theorem wpAnyH_two {i j : Nat} (hr : Region.ready md ops listed = [i, j]) (h1 : wpOp P ops Q i (fun a' w' => S w' ∧ wpAnyH P md ops Q S fuel (listed.setIfInBounds i true) a' w') a w) (h2 : wpOp P ops Q j (fun a' w' => S w' ∧ wpAnyH P md ops Q S fuel (listed.setIfInBounds j true) a' w') a w) : wpAnyH P md ops Q S (fuel + 1) listed a w := by
  refine wpAnyH_all hr (by simp) (fun k hk => ?_)
  simp only [List.mem_cons, List.not_mem_nil, or_false] at hk
  rcases hk with rfl | rfl
  · exact h1
  · exact h2
variable {i : Nat} {oi : Oper} {K : Go.Act → World → Prop}
theorem do_row (hi : ops[i]? = some oi) (wi : Region.wanted oi (yielded ops a.tmps) = true) (ty : TypeId) (x : Operand) (ho : oi.op = .load ty x) (g : Nat) (hx : a.eval x = .pointer (some ⟨g, 0, none⟩)) (t : TypeId) (cs : Array Value) (d : TypeDesc) (hg : w.heap[g]? = some (.cells cs t (0, 0)))
    (hu : P.underlying ty = some d) (hd : (match d with | .struct _ | .array _ _ => true | _ => false) = true) (hsz : (P.info? ty).map (·.size) = some cs.size) (h : K (a.put oi.dst (.agg cs)) w) : wpOp P ops Q i K a w :=
  wpOp_step hi (fun K' hK => by
    rw [if_pos wi]
    exact wp_load_row ty x ho g hx t cs (0, 0) d hg hu hd hsz (hK _ _ h))
theorem do_store (hi : ops[i]? = some oi) (wi : Region.wanted oi (yielded ops a.tmps) = true) (di : oi.dst = none) (ty : TypeId) (x y : Operand) (ho : oi.op = .store ty x y) (E : Nat) (c old : Array Value)
    (hx : a.eval x = .pointer (some ⟨E, 0, none⟩)) (hy : a.eval y = .agg c) (t : TypeId) (hE : w.heap[E]? = some (.cells old t (0, 0))) (hs : (P.info? ty).map (·.size) = some c.size) (hold : old.size = c.size) (h1 : c.all (·.oneCell') = true)
    (h : K a (w.setRow E c)) : wpOp P ops Q i K a w :=
  wpOp_step hi (fun K' hK => by
    rw [if_pos wi]
    refine wp_store_row ty x y ho E c hx hy t old hE hs hold h1 ?_
    rw [di, show a.put none undef = a from rfl]
    exact hK _ _ h)
theorem do_call {n : Nat} {al : List Value} (hi : ops[i]? = some oi) (wi : Region.wanted oi (yielded ops a.tmps) = true) (xl : List Operand) (ats : Array TypeId) (ho : oi.op = .call { callee := .value (.func n), args := xl.toArray, argTypes := ats }) (hargs : xl.map a.eval = al) (hent : ∀ (args : Array Value) (w : World), (callFunc n args).run P w = .ok (.enter n args) w)
    (h : Calls P n al.toArray w fun e w' => ∃ v, e = .returned v ∧ K (a.put oi.dst v) w') : wpOp P ops Q i K a w :=
  wpOp_step hi (fun K' hK => by
    rw [if_pos wi]
    have he : (execOp a.eval oi).run P w = .ok (.enter n al.toArray) w := by
      obtain ⟨dst, op, ty, pos, after, guard⟩ := oi
      simp only at ho
      subst ho
      rw [execOp_call_go, show (#[] ++ xl.toArray.map a.eval ++ #[] : Array Value) = al.toArray by rw [← hargs]; simp]
      exact hent _ _
    unfold Oper.wp
    rw [he, Oper.upon_enter]
    refine h.mono ?_
    rintro e w' ⟨v, rfl, h2⟩
    exact hK _ _ h2)
end
section
variable {ops : Array Oper} {rest : List Oper} {o : Oper} {a : Go.Act} {w : World} {Q : Exit → Go.Act → World → Prop}
theorem ldw46 (hgd : o.guard = none) (x : Operand) (ho : o.op = .load 46 x) (g : Nat) (hx : a.eval x = .pointer (some ⟨g, 0, none⟩)) (C : Array Value) (hg : w.heap[g]? = some (.cells C 46 (0, 0))) (hs : C.size = 15)
    (h : wpList Try.prog ops Q rest (a.put o.dst (.agg C)) w) : wpList Try.prog ops Q (o :: rest) a w :=
  wpList_load_row hgd 46 x ho g hx 46 C (0, 0) _ hg Try.underlying46 rfl (z46 hs) h
theorem stw46 (hgd : o.guard = none) (x y : Operand) (ho : o.op = .store 46 x y) (hd : o.dst = none) (g : Nat) (C : Array Value) (hx : a.eval x = .pointer (some ⟨g, 0, none⟩)) (hy : a.eval y = .agg C) (old : Array Value) (hg : w.heap[g]? = some (.cells old 46 (0, 0))) (hs : C.size = 15) (hold : old.size = 15) (h1 : C.all (·.oneCell') = true)
    (h : wpList Try.prog ops Q rest a (w.setRow g C)) : wpList Try.prog ops Q (o :: rest) a w :=
  wpList_store_rowTo hgd 46 x y ho hd g C hx hy 46 old hg (z46 hs) (hold.trans hs.symm) h1 h
end
abbrev zS : Array Value := #[.int .i64 0, .int .i64 0, .slice none 0 0, .slice none 0 0, .slice none 0 0, .int .i64 0, .int .i64 0, .int .i64 0, .slice none 0 0, .slice none 0 0, .int .i64 0, .int .i64 0, .int .i64 0, .int .i64 0, .bool false]
def sa (q : Qv) (s : St) : Array Value := #[.int .i64 s.first, .int .i64 s.blocks, .slice q.Q1 s.spec.length q.c1, .slice q.Q2 s.staged.length q.c2, .slice q.Q3 s.saved.length q.c3, .int .i64 s.seq, .int .i64 s.block, .int .i64 s.slot, .slice q.Q4 q.n4 q.c4, .slice q.Q5 q.n5 q.c5, .int .i64 q.pg, .int .i64 q.er, .int .i64 q.nb, .int .i64 q.ns, .bool s.broken]
def xa (x : Rc) (g : Fl) : Array Value := #[.slice x.A g.img.length x.c, .int .i64 g.pg, .slice x.B g.wear.length x.d, .bool g.down, .int .i64 g.fuse, .slice x.P g.picks.length x.r]
theorem sa_v (q : Qv) (s : St) : .agg (sa q s) = q.v s := rfl
theorem xa_v (x : Rc) (g : Fl) : .agg (xa x g) = x.v g := rfl
theorem sa_size (q : Qv) (s : St) : (sa q s).size = 15 := rfl
theorem xa_size (x : Rc) (g : Fl) : (xa x g).size = 6 := rfl
theorem sa_one (q : Qv) (s : St) : (sa q s).all (·.oneCell') = true := by simp [sa, Value.oneCell']
theorem xa_one (x : Rc) (g : Fl) : (xa x g).all (·.oneCell') = true := by simp [xa, Value.oneCell']

theorem do_allocS {ops : Array Oper} {Q : Exit → Go.Act → World → Prop} {i : Nat} {oi : Oper} {a : Go.Act} {w : World} {K : Go.Act → World → Prop} (hi : ops[i]? = some oi) (wi : Region.wanted oi (yielded ops a.tmps) = true) (ho : oi.op = .alloc 46) (h : K (a.put oi.dst (.pointer (some ⟨w.heap.size, 0, none⟩))) (w.alloc (.cells zS 46))) : wpOp Try.prog ops Q i K a w := by
  refine wpOp_step hi (fun K' hK => ?_)
  rw [if_pos wi]
  have he : (execOp a.eval oi).run Try.prog w = .ok (.value (.pointer (some ⟨w.heap.size, 0, none⟩))) (w.alloc (.cells zS 46)) := by
    unfold execOp
    simp only [ho]
    go_simp
  unfold Oper.wp
  rw [he]
  exact hK _ _ h

/-- The boxes of Format, and that of its store. -/
def X5 (X : Nat → Prop) (N B5 b : Nat) : Prop := XF X N 2 b ∨ b = B5
structure Fs (X : Nat → Prop) (w wr : World) (y : Rc) (g : Fl) (B5 : Nat) (q : Qv) (s : St) : Prop where
  fr : Fr w wr [(xa y g, 37), (zF, 37)]
  row : wr.heap[B5]? = some (.cells (sa q s) 46 (0, 0))
  lt : w.heap.size + 2 ≤ B5
  rv : RvA (X5 X w.heap.size B5) wr q s g.pg
  ra : RAt (X5 X w.heap.size B5) wr y g
section
variable {X : Nat → Prop} {w wr w' : World} {y y' : Rc} {g g' : Fl} {B5 : Nat} {q q' : Qv} {s s' : St}
theorem x5_new {N : Nat} (hB : wr.heap.size ≤ B5) : ∀ b, b < wr.heap.size → X5 X N B5 b → XF X N 2 b := fun b hb hx => by
  rcases hx with hx | hx
  · exact hx
  · omega
theorem Fs.blt (h : Fs X w wr y g B5 q s) : B5 < wr.heap.size := (Array.getElem?_eq_some_iff.1 h.row).1
theorem Fs.later (h : Fs X w wr y g B5 q s) (hb : Below wr.heap.size wr w') : Fs X w w' y g B5 q s := ⟨h.fr.later hb, (hb.block _ h.blt).trans h.row, h.lt, h.rv.below hb, h.ra.below hb⟩
theorem Fs.xlt (h : Fs X w wr y g B5 q s) (hX : ∀ b, X b → b < w.heap.size) : ∀ b, X5 X w.heap.size B5 b → b < wr.heap.size := fun b hb => by
  have h1 := h.blt
  have h2 := h.lt
  rcases hb with (hb | hb) | hb
  · have := hX b hb
    omega
  · omega
  · omega
/-- The store's box is stored anew. -/
theorem Fs.putS (h : Fs X w wr y g B5 q s) (hb : Below wr.heap.size wr w') (hv : RvA (X5 X w.heap.size B5) w' q' s' g.pg) : Fs X w (w'.setRow B5 (sa q' s')) y g B5 q' s' := by
  have h1 := h.later hb
  have h2 := h.lt
  have ho := OnlyX.row (X := X5 X w.heap.size B5) w' B5 (sa q' s') (.inr rfl)
  exact ⟨⟨below_setRow h1.fr.below (by omega) _, by rw [size_setRow]; exact h1.fr.len, fun i C t hi => by
    have h3 := (List.getElem?_eq_some_iff.1 hi).1
    simp only [List.length_cons, List.length_nil] at h3
    rw [setRow_other _ _ _ _ (by omega)]
    exact h1.fr.row i C t hi⟩, setRow_heap _ _ _ _ _ _ h1.row, h.lt, hv.onlyX ho, h1.ra.onlyX ho⟩
/-- The store was opened, and laid into a new box. -/
theorem Fs.new {M : Nat} {W : World} (h : Fr w wr [(xa y g, 37), (zF, 37)]) (hra : RAt (XF X w.heap.size 2) wr y g) (hb : Below wr.heap.size wr w') (hB : wr.heap.size ≤ B5) (hv : RvA (XW (XF X w.heap.size 2) wr.heap.size M) w' q s g.pg) (hBM : B5 < M ∨ w'.heap.size ≤ B5)
    (ho : OnlyX (fun b => b = B5) w' W) (hbW : Below wr.heap.size wr W) (hrow : W.heap[B5]? = some (.cells (sa q s) 46 (0, 0))) : Fs X w W y g B5 q s := by
  have hl := h.len
  simp only [List.length_cons, List.length_nil] at hl
  have ho2 : OnlyX (X5 X w.heap.size B5) w' W := ho.more (fun b hb => .inr hb)
  refine ⟨h.later hbW, hrow, by omega, (hv.newX (fun b hlt hx => ?_)).onlyX ho2, (hra.newX9 (x5_new hB)).onlyX (.of_below hbW)⟩
  rcases hx with hx | hx
  · exact .inl hx
  · rcases hBM with h1 | h1
    · exact .inr ⟨by omega, by omega⟩
    · omega
end
theorem ent61 (args : Array Value) (w : World) : (callFunc 61 args).run Try.prog w = .ok (.enter 61 args) w := by
  go_simp
theorem ent69 (args : Array Value) (w : World) : (callFunc 69 args).run Try.prog w = .ok (.enter 69 args) w := by
  go_simp
theorem ent71 (args : Array Value) (w : World) : (callFunc 71 args).run Try.prog w = .ok (.enter 71 args) w := by
  go_simp
theorem ent72 (args : Array Value) (w : World) : (callFunc 72 args).run Try.prog w = .ok (.enter 72 args) w := by
  go_simp
theorem ent70 (args : Array Value) (w : World) : (callFunc 70 args).run Try.prog w = .ok (.enter 70 args) w := by
  go_simp
theorem ent59 (args : Array Value) (w : World) : (callFunc 59 args).run Try.prog w = .ok (.enter 59 args) w := by
  go_simp
theorem ent60 (args : Array Value) (w : World) : (callFunc 60 args).run Try.prog w = .ok (.enter 60 args) w := by
  go_simp
theorem ent73 (args : Array Value) (w : World) : (callFunc 73 args).run Try.prog w = .ok (.enter 73 args) w := by
  go_simp
theorem ent74 (args : Array Value) (w : World) : (callFunc 74 args).run Try.prog w = .ok (.enter 74 args) w := by
  go_simp
theorem ent11 (args : Array Value) (w : World) : (callFunc 11 args).run Try.prog w = .ok (.enter 11 args) w := by
  go_simp
end Go.Proofs.Ytjdknddnanopaaa

/-
  The reference of layer 52: Format, carried out.
-/
namespace Go.Proofs.Ytjdknddnanopaaa
open Go.RowKit
set_option linter.unusedVariables false
set_option linter.unusedSimpArgs false

theorem setF_four (s : St) (i v : Int) : (setF s i v).broken = s.broken ∧ (setF s i v).busy = s.busy ∧ (setF s i v).seq = s.seq ∧ (setF s i v).staged.length = s.staged.length := by
  unfold setF
  split
  · exact ⟨rfl, rfl, rfl, by simp⟩
  · exact ⟨rfl, rfl, rfl, rfl⟩
theorem fmt_st {f : Fl} (h : f.up) {first k : Nat} (hk : 1 ≤ k) (hk8 : k ≤ 8) (hw : first + (2 * k + 2) ≤ f.wear.length) (hp : 2 ≤ f.pg) {img : List Int} (hi : Bytes img) (h2 : img.length ≤ sizeF f (2 * k + 2)) :
    (openF (fmtG f first (2 * k + 2) img) first 2 (fwSpec (sizeF f (2 * k + 2)))).broken = false ∧ (openF (fmtG f first (2 * k + 2) img) first 2 (fwSpec (sizeF f (2 * k + 2)))).busy = false ∧ (openF (fmtG f first (2 * k + 2) img) first 2 (fwSpec (sizeF f (2 * k + 2)))).seq = 0 ∧ (openF (fmtG f first (2 * k + 2) img) first 2 (fwSpec (sizeF f (2 * k + 2)))).staged.length = 9 := by
  obtain ⟨g1, g2, g3, g4, g5, g6, g7, _⟩ := fmtG_blank h hw hk hi h2
  have hsz := sizeF_le h.ok hk8
  have hreg : regE (fmtG f first (2 * k + 2) img) (first : Int) ((2 * k + 2 : Nat) : Int) = 0 := by
    unfold regE
    rw [if_neg (by rw [g1.dn]; decide), if_neg (by omega), if_neg (by rw [g3]; omega), if_neg (by rw [g2]; omega)]
  have hop := reg_open hreg (sizeF f (2 * k + 2))
  have hok := fwSpec_ok (n := sizeF f (2 * k + 2)) (by omega)
  have hst : ∀ x, first * (fmtG f first (2 * k + 2) img).pg ≤ x → x < (first + 2) * (fmtG f first (2 * k + 2) img).pg → pageF (fmtG f first (2 * k + 2) img) x = blankP := fun x h1 h2 => by
    rw [g2] at h1 h2
    have : (first + 2) * f.pg ≤ (first + (2 * k + 2)) * f.pg := Nat.mul_le_mul_right _ (by omega)
    rw [g5, if_neg (by omega), if_pos (by omega)]
  obtain ⟨-, -, -, r4, r5, -, -, -, -, -, r11, r12⟩ := Surv.firstR g1.ok hst hok hop
  exact ⟨r12, r5, r11, by rw [r4]; rfl⟩
set_option maxRecDepth 100000 in
set_option maxHeartbeats 16000000 in
theorem rfmt_yes {X : Nat → Prop} {w : World} {x : Rc} {f : Fl} (h : RAt X w x f) (hX : ∀ b, X b → b < w.heap.size) (hu : f.up) (a k : Nat) (hk : 1 ≤ k) (hk8 : k ≤ 8) (hw : a + (2 * k + 2) ≤ f.wear.length) (hp : 2 ≤ f.pg) (v : Int) (hv : 1 ≤ v ∧ v ≤ 1073741824) (A : Option Addr) (n c : Nat) (img : List Int)
    (hA : Rd w w.heap.size A (kcells .u8 img)) (hn : img.length = n) (hnc : n ≤ c) (hcm : c ≤ maxLen) (hb : Bytes img) (h1 : 1 ≤ n) (h2 : n ≤ sizeF f (2 * k + 2)) (fi bl : Int) (hfi : fi = a) (hbl : bl = ((2 * k + 2 : Nat) : Int)) :
    Calls Try.prog 19 #[x.v f, .int .i64 fi, .int .i64 bl, .int .i64 v, .slice A n c] w (RFM X w (fmtC f a (2 * k + 2) v (sumZ img) img).2.1 0) := by
  have hsz := sizeF_le h.ok hk8
  have hC := sumZ_u32 img
  have hwl : f.wear.length ≤ 64 := h.ok.b2
  have hpg : f.pg ≤ 16 := h.ok.p2
  obtain ⟨x1, x2, x3, x4, x5, x6, -, -, -, -, -⟩ := fmt_done hu hk hk8 hw hp hb (by rw [hn]; exact h1) (by rw [hn]; exact h2) hv (c := sumZ img) ⟨hC.1, by have := hC.2; omega⟩
  have hE : regE f fi bl = 0 := by
    unfold regE
    rw [if_neg (by rw [hu.dn]; decide), if_neg (by omega), if_neg (by omega), if_neg (by omega)]
  obtain ⟨gu, gp, gw, gk, -, gr, -, gb⟩ := fmtG_blank hu hw hk hb (by rw [hn]; exact h2)
  have hE2 : regE (fmtG f a (2 * k + 2) img) fi bl = 0 := by
    unfold regE
    rw [if_neg (by rw [gu.dn]; decide), if_neg (by omega), if_neg (by rw [gw]; omega), if_neg (by rw [gp]; omega)]
  have HR := Lib.hid (fun w2 => rregion_r h fi bl (by unfold I64; omega) (by unfold I64; omega) w2)
  rw [hE] at HR
  have HSZ := Lib.hid (fun w2 => rsize_r h k hk8 bl hbl w2)
  obtain ⟨N, hN⟩ : ∃ N, sizeF f (2 * k + 2) = N := ⟨_, rfl⟩
  have hN2 : sizeF (fmtG f a (2 * k + 2) img) (2 * k + 2) = N := by rw [← hN]; unfold sizeF; rw [gp]
  have hsf := fmt_st hu hk hk8 hw hp hb (by rw [hn]; exact h2)
  rw [hN] at HSZ h2 hsz x1 x2 x3 x4 x5 hsf
  rw [hn] at x4 x5 gr gb
  have hfc : fmtC f a (2 * k + 2) v (sumZ img) img = commitS (setN (openF (fmtG f a (2 * k + 2) img) a 2 (fwSpec N)) 3 [v, (n : Int), sumZ img]) (fmtG f a (2 * k + 2) img) := by
    unfold fmtC fmtS
    rw [hN, hn]
    rfl
  rw [hfc] at x6 ⊢
  have heu := eraseN_up hu (a := a) (n := 2 * k + 2) hw
  have hnp : (a + 2) * f.pg + nPages n ≤ f.wear.length * f.pg := Nat.le_trans gr (Nat.mul_le_mul_right _ (by omega))
  have h1024 : f.wear.length * f.pg ≤ 1024 := pages_1024 h.ok
  have HG : Hid (fmtG f a (2 * k + 2) img = progN (eraseN f a (2 * k + 2)) ((a + 2) * f.pg) img (nPages n)) := by rw [Hid, ← hn]; rfl
  have HPC : Hid (∀ m < nPages n, (progF (progN (eraseN f a (2 * k + 2)) ((a + 2) * f.pg) img m) (((a + 2) * f.pg + m : Nat) : Int) (padB (chunkB img m))).2 = 0) :=
    fun m hm => progN_code heu.up hb (by rw [heu.wl, heu.pg]; exact hnp) gb hm
  have HPU : Hid (∀ m ≤ nPages n, (progN (eraseN f a (2 * k + 2)) ((a + 2) * f.pg) img m).pg = f.pg) :=
    fun m hm => (progN_up heu.up hb (a := (a + 2) * f.pg) (n := m) (by rw [heu.wl, heu.pg]; omega) (fun x h1 h2 => gb x h1 (by omega))).pg.trans heu.pg
  have HSF := Lib.hid hsf
  have HEC : Hid (∀ m < 2 * k + 2, (eraseF (eraseN f a m) ((a + m : Nat) : Int)).2 = 0) := fun m hm => eraseN_code hu hw hm
  have HS0 : Hid (StOk (fmtG f a (2 * k + 2) img) (openF (fmtG f a (2 * k + 2) img) a 2 (fwSpec N))) := openF_ok x2 x1
  have HGU := Lib.hid gu
  have HGP := Lib.hid gp
  have HE2 := Lib.hid hE2
  have HN2 := Lib.hid hN2
  have HX1 := Lib.hid x1
  have HX2 := Lib.hid x2
  have HX3 := Lib.hid x3
  have HX4 := Lib.hid x4
  have HX5 := Lib.hid x5
  have HX6 := Lib.hid x6
  obtain ⟨Cs, hCs⟩ : ∃ x, sumZ img = x := ⟨_, rfl⟩
  have hC2 : 0 ≤ Cs ∧ Cs < 4294967296 := by rw [← hCs]; exact hC
  rw [hCs] at HX5 HX6 ⊢
  have HCS := Lib.hid hCs
  have HNN := Lib.hid hn
  have HA := Lib.hid hA
  have HB := Lib.hid hb
  have HX := Lib.hid hX
  have HR0 := Lib.hid h
  obtain ⟨F0, hF0⟩ : ∃ F0, xa x f = F0 := ⟨_, rfl⟩
  have HF0 : Hid (F0 = xa x f) := by rw [Hid, hF0]
  obtain ⟨W, hW⟩ : ∃ W, (w.alloc (.cells F0 37)).alloc (.cells zF 37) = W := ⟨_, rfl⟩
  have H0 := Lib.hid (Fr.two hW)
  have HRA := Lib.hid (h.xf H0.out.below 2)
  obtain ⟨K, hK⟩ : ∃ K, 2 * k + 2 = K := ⟨_, rfl⟩
  have hKb : 4 ≤ K ∧ K ≤ 18 := by omega
  rw [hK] at hbl HG HPC HPU HEC HS0 HGU HGP HE2 HN2 HX1 HX3 HX4 HX5 HX6 HSF ⊢
  have hfa : (0 : Int) ≤ fi ∧ fi ≤ 64 := by omega
  have hnN : nPages n * 64 < n + 64 ∧ n ≤ nPages n * 64 := by unfold nPages; omega
  obtain ⟨np, hnpp⟩ : ∃ x, nPages n = x := ⟨_, rfl⟩
  rw [hnpp] at hnN hnp HPC HG HPU
  obtain ⟨hnN1, hnN2⟩ := hnN
  obtain ⟨hKb1, hKb2⟩ := hKb
  obtain ⟨hfa1, hfa2⟩ := hfa
  obtain ⟨hC20, hC21⟩ := hC2
  have hw' : (a : Int) + K ≤ 64 := by omega
  obtain ⟨P0, hP⟩ : ∃ P, (a + 2) * f.pg = P := ⟨_, rfl⟩
  have hP1 : P0 + np ≤ 1024 := by rw [← hP]; exact Nat.le_trans hnp h1024
  rw [hP] at HPC HG HPU
  have HPE := Lib.hid hP
  obtain ⟨G, hG⟩ : ∃ x, fmtG f a K img = x := ⟨_, rfl⟩
  rw [hG] at HG HS0 HGU HGP HE2 HN2 HX1 HX3 HX4 HX5 HX6 HSF ⊢
  have q3 : IntKind.i64.wrap Cs = Cs := IntWalk.i64_in _ (by omega)
  have HK8 := Lib.hid hk8
  have HKK := Lib.hid hK
  have hv1 := hv.1
  have hv2 := hv.2
  have h1i : (1 : Int) ≤ (n : Int) := by omega
  have h2i : (n : Int) ≤ (N : Int) := by omega
  have hal : a ≤ 64 := by omega
  unfold maxLen at hcm
  unfold RFM
  rw [← xa_v, hF0] at HR ⊢
  simp only [Rc.v] at HSZ
  have HXA : Hid (∀ (y : Rc) (g : Fl), (xa y g).size = 6) := fun y g => xa_size y g
  have HXO : Hid (∀ (y : Rc) (g : Fl), (xa y g).all (·.oneCell') = true) := fun y g => xa_one y g
  have HFZ : Hid (F0.size = 6) := by rw [← hF0]; exact xa_size _ _
  have HRG : Hid (∀ W, Below w.heap.size w W → RAt (XF X w.heap.size 2) W x f) := fun W hb => HR0.out.xf hb 2
  clear hsf h hX hA hn hb hu hE hE2 hC gp gw gk gu gb heu hP hN hN2 hwl hpg hk hk8 hw gr h1024 hv hG hCs hnpp hfc x1 x2 x3 x4 x5 x6 hp hK hnp h1 h2 hF0
  subst hfi hbl
  go_enter Try.func19, Try.ntmps19
  go_upto_region 1 with (fail)
  try rw [hW]
  clear hW
  refine wp_region_list ?_
  refine ld37 rfl _ rfl w.heap.size rfl F0 (H0.out.row0) HFZ.out ?_
  simp only [Act.put, List.setIfInBounds_toArray, List.set_cons_zero, List.set_cons_succ]
  go_wp2_with (fail)
  (with_reducible refine (HR.out W).mono ?_)
  rintro e v1 ⟨rfl, hb1⟩
  have H2 := Lib.hid (H0.out.later hb1)
  clear hb1
  have HF0' := HF0.out
  have d0 := H2.out.cell0 0 (v := .slice x.A f.img.length x.c) (by rw [HF0']; rfl)
  have d1 := H2.out.cell0 1 (v := .int .i64 f.pg) (by rw [HF0']; rfl)
  have d2 := H2.out.cell0 2 (v := .slice x.B f.wear.length x.d) (by rw [HF0']; rfl)
  have d3 := H2.out.cell0 3 (v := .bool f.down) (by rw [HF0']; rfl)
  have d4 := H2.out.cell0 4 (v := .int .i64 f.fuse) (by rw [HF0']; rfl)
  have d5 := H2.out.cell0 5 (v := .slice x.P f.picks.length x.r) (by rw [HF0']; rfl)
  clear HF0'
  go_wp2_with (fail)
  clear d0 d1 d2 d3 d4 d5
  (with_reducible refine (HSZ.out v1).mono ?_)
  rintro e v2 ⟨rfl, hb2⟩
  have H3 := Lib.hid (H2.out.later hb2)
  clear hb2
  have HRV : Hid (RAt (XF X w.heap.size 2) v2 x f) := HRG.out _ H3.out.below
  go_wp2_with (fail)
  go_loopw [47] (fun i wr => ∃ (j : Nat) (y : Rc), j ≤ K ∧ i = .int .i64 (j : Int) ∧ Fr w wr [(xa y (eraseN f a j), 37), (zF, 37)] ∧ RAt (XF X w.heap.size 2) wr y (eraseN f a j)) (fun i _ => K - (intOf i).toNat)
  case atStart => exact ⟨0, x, Nat.zero_le _, rfl, by have := H3.out; rw [HF0.out] at this; exact this, HRV.out⟩
  case round =>
    obtain ⟨j, y, hj, rfl, hF, hR⟩ := hrel
    have HL0 := Lib.hid hF
    have HRJ := Lib.hid hR
    clear hF hR
    by_cases hlt : j < K
    · have HER := Lib.hid (fun (W : World) (hb : Below wr.heap.size wr W) => eraseR_any (HRJ.out.below hb) (XF.lt HX.out (Nat.le_trans HL0.out.len hb.size)) ((a : Int) + (j : Int)))
      have q5 : IntKind.i64.wrap ((a : Int) + (j : Int)) = (a : Int) + (j : Int) := IntWalk.i64_in _ (by omega)
      have hec := HEC.out j hlt
      rw [show (a : Int) + (j : Int) = ((a + j : Nat) : Int) by push_cast; rfl] at HER
      rw [hec] at HER
      rw [show (eraseF (eraseN f a j) ((a + j : Nat) : Int)).1 = eraseN f a (j + 1) from rfl, show ((a + j : Nat) : Int) = (a : Int) + (j : Int) by push_cast; rfl] at HER
      obtain ⟨g, hg⟩ : ∃ g, eraseN f a j = g := ⟨_, rfl⟩
      obtain ⟨g', hg'⟩ : ∃ g', eraseN f a (j + 1) = g' := ⟨_, rfl⟩
      rw [hg, hg'] at HER
      rw [hg] at HL0
      simp only [← xa_v] at HER
      have HG' := Lib.hid hg'
      clear hec hg hg'
      go_upto_region 10 with (fail)
      refine wp_region_list ?_
      refine ld37 rfl _ rfl w.heap.size rfl (xa y g) (HL0.out.row0) (HXA.out y g) ?_
      simp only [Act.put, List.setIfInBounds_toArray, List.set_cons_zero, List.set_cons_succ]
      refine wpList_value (v := .int .i64 (a : Int)) rfl (by rfl) ?_
      simp only [Act.put, List.setIfInBounds_toArray, List.set_cons_zero, List.set_cons_succ]
      refine wpList_value (v := .int .i64 (j : Int)) rfl (by rfl) ?_
      simp only [Act.put, List.setIfInBounds_toArray, List.set_cons_zero, List.set_cons_succ]
      refine wpList_value (v := .int .i64 ((a : Int) + (j : Int))) rfl (by go_simp) ?_
      simp only [Act.put, List.setIfInBounds_toArray, List.set_cons_zero, List.set_cons_succ]
      refine wpList_call9 (n := 69) (al := [.agg (xa y g), .int .i64 ((a : Int) + (j : Int))]) rfl _ _ rfl (by rfl) ent69 ?_
      (with_reducible refine (HER.out wr (Below.refl _ _)).mono ?_)
      rintro e v3 ⟨z, rfl, hr3, hb3⟩
      refine ⟨_, rfl, ?_⟩
      simp only [Act.put, List.setIfInBounds_toArray, List.set_cons_zero, List.set_cons_succ]
      have H2 := Lib.hid (HL0.out.later hb3)
      have HR3 := Lib.hid hr3
      clear hb3 hr3
      refine wpList_value (v := .tuple #[.agg (xa z g'), .int .i64 0]) rfl (by rfl) ?_
      simp only [Act.put, List.setIfInBounds_toArray, List.set_cons_zero, List.set_cons_succ]
      refine wpList_value (v := .agg (xa z g')) rfl (by rfl) ?_
      simp only [Act.put, List.setIfInBounds_toArray, List.set_cons_zero, List.set_cons_succ]
      refine wpList_value (v := .int .i64 0) rfl (by rfl) ?_
      simp only [Act.put, List.setIfInBounds_toArray, List.set_cons_zero, List.set_cons_succ]
      refine st37 rfl _ _ rfl rfl w.heap.size (xa z g') rfl rfl _ (H2.out.row0) (HXA.out z g') (HXA.out y g) (HXO.out z g') ?_
      have H3 := Lib.hid (H2.out.put0 (xa z g'))
      have HR33 := Lib.hid (HR3.out.onlyX (OnlyX.row v3 w.heap.size (xa z g') (xf0 _ _)))
      obtain ⟨w3, hw3⟩ : ∃ wv, v3.setRow w.heap.size (xa z g') = wv := ⟨_, rfl⟩
      rw [hw3] at H3 HR33
      try rw [hw3]
      clear hw3
      go_wp2
      go_roundw
      case rel => exact ⟨j + 1, z, by omega, by go_num, by rw [HG'.out]; exact H3.out, by rw [HG'.out]; exact HR33.out⟩
      case measure => simp [intOf]; omega
    · have hjK : j = K := by omega
      subst hjK
      go_wp2_with (fail)
      go_loopw [15] (fun i wr => ∃ (m : Nat) (y : Rc), m ≤ np ∧ i = .int .i64 ((64 * m : Nat) : Int) ∧ Fr w wr [(xa y (progN (eraseN f a j) P0 img m), 37), (zF, 37)] ∧ RAt (XF X w.heap.size 2) wr y (progN (eraseN f a j) P0 img m)) (fun i _ => np - (intOf i).toNat / 64)
      case atStart => exact ⟨0, y, Nat.zero_le _, rfl, HL0.out, HRJ.out⟩
      case round =>
        obtain ⟨m, z, hm, rfl, hF, hR⟩ := hrel
        have HM0 := Lib.hid hF
        have HRM := Lib.hid hR
        clear hF hR
        obtain ⟨I, hI⟩ : ∃ I, 64 * m = I := ⟨_, rfl⟩
        by_cases hlt2 : m < np
        · obtain ⟨bb, off, rfl⟩ : ∃ b off, A = some ⟨b, off, none⟩ := by
            obtain ⟨b, off, e, _⟩ := HA.out (by
              intro e
              have := kcells_length .u8 img
              rw [e, HNN.out] at this
              simp at this
              omega)
            exact ⟨b, off, e⟩
          obtain ⟨M, hM⟩ : ∃ M, min 64 (n - 64 * m) = M := ⟨_, rfl⟩
          have HCL : Hid ((chunkB img m).length = M) := by rw [Hid, chunkB_length, HNN.out, hM]
          have hM2 : 1 ≤ M ∧ M ≤ 64 ∧ I + M ≤ n := by omega
          obtain ⟨hM3, hM4, hM5⟩ := hM2
          have hmin : min ((I : Int) + 64) (n : Int) = (I : Int) + (M : Int) := by omega
          have hIm : (I : Int) < (n : Int) := by omega
          have hIc : I ≤ c := by omega
          have k1 : (I : Int) ≤ (I : Int) + (M : Int) := by omega
          have k2 : (I : Int) + (M : Int) ≤ (c : Int) := by omega
          have k3 : (0 : Int) ≤ (I : Int) := by omega
          have k4 : ((I : Int) + (M : Int)).toNat = I + M := by omega
          have k5 : I + M - I = M := by omega
          have k6 : ¬ (c = I) := by omega
          have k7 : IntKind.i64.wrap ((I : Int) + 64) = (I : Int) + 64 := IntWalk.i64_in _ (by omega)
          have k8 : (0 : Int) ≤ (I : Int) + (M : Int) := by omega
          have hdv : (I : Int).tdiv 64 = (m : Int) := by rw [Int.tdiv_eq_ediv_of_nonneg (by omega)]; omega
          have hdv2 : (I : Int) / 64 = (m : Int) := by omega
          have hpw0 : IntKind.i64.wrap (m : Int) = (m : Int) := IntWalk.i64_in _ (by omega)
          have hpw : IntKind.i64.wrap ((P0 : Int) + (m : Int)) = (P0 : Int) + (m : Int) := IntWalk.i64_in _ (by omega)
          obtain ⟨g, hg⟩ : ∃ g, progN (eraseN f a j) P0 img m = g := ⟨_, rfl⟩
          obtain ⟨g', hg'⟩ : ∃ g', progN (eraseN f a j) P0 img (m + 1) = g' := ⟨_, rfl⟩
          have hpf : progF g ((P0 + m : Nat) : Int) (padB (chunkB img m)) = (g', 0) := by
            have e2 := HPC.out m hlt2
            rw [← hg, ← hg']
            exact Prod.ext rfl e2
          have hgp := HPU.out m (by omega)
          rw [hg] at hgp HM0 HRM
          have HG' := Lib.hid hg'
          have HPAG : Hid (∀ W, Below wr.heap.size wr W → Calls Try.prog 71 #[.agg (xa z g), .int .i64 (a : Int), .int .i64 (j : Int), .int .i64 0] W fun e w' => e = .returned (.int .i64 (P0 : Int)) ∧ Below wr.heap.size wr w' ∧ Below W.heap.size W w') := fun W hb => by
            have := rpage_r HRM.out k a 0 HK8.out (by omega) hal (a : Int) (j : Int) 0 rfl (by rw [← HKK.out]) rfl W
            rw [show (a + 2 + 0 * k) * g.pg = P0 by rw [hgp, Nat.zero_mul, Nat.add_zero]; exact HPE.out] at this
            exact this.mono (fun e w' ⟨he, h2⟩ => ⟨he, hb.trans (h2.mono hb.size), h2⟩)
          have HFUL : Hid (∀ W, Below wr.heap.size wr W → Calls Try.prog 72 #[.slice (some ⟨bb, off + I, none⟩) M (c - I)] W fun e w' => ∃ A' c', e = .returned (.slice A' 64 c') ∧ 64 ≤ c' ∧ c' ≤ maxLen ∧ Rd w' w'.heap.size A' (kcells .u8 (padB (chunkB img m))) ∧ Below wr.heap.size wr w' ∧ Below W.heap.size W w') := fun W hb => by
            have hbw := HM0.out.below.trans (hb.mono HM0.out.below.size)
            have hrd : Rd W W.heap.size (some ⟨bb, off + I, none⟩) (kcells .u8 (chunkB img m)) := by
              rw [← hI]
              exact ((HA.out.below hbw (Nat.le_refl _)).more hbw.size).part (64 * m) 64
            refine (rfull_r (some ⟨bb, off + I, none⟩) M (c - I) (chunkB img m) W hrd HCL.out hM4).mono ?_
            rintro e w' ⟨A', c', he, ho, h2⟩
            obtain ⟨A3, c3, e3, h4, h5, h6⟩ := own_read ho
            injection e3 with e31 e32 e33
            subst e31 e33
            exact ⟨A', c', he, h4, h5, h6, hb.trans (h2.mono hb.size), h2⟩
          have HPR : Hid (∀ W, Below wr.heap.size wr W → ∀ A' c', Rd W W.heap.size A' (kcells .u8 (padB (chunkB img m))) → 64 ≤ c' → c' ≤ maxLen → Calls Try.prog 70 #[.agg (xa z g), .int .i64 ((P0 : Int) + (m : Int)), .slice A' 64 c'] W fun e w' => ∃ y' : Rc, e = .returned (.tuple #[.agg (xa y' g'), .int .i64 0]) ∧ RAt (XF X w.heap.size 2) w' y' g' ∧ Below wr.heap.size wr w' ∧ Below W.heap.size W w') := fun W hb A' c' hr h4 h5 => by
            have := progR_any (HRM.out.below hb) (XF.lt HX.out (Nat.le_trans HM0.out.len hb.size)) ((P0 + m : Nat) : Int) A' 64 c' (padB (chunkB img m)) hr (padB_length (by rw [HCL.out]; exact hM4)) h4 h5 (padB_bytes (chunkB_bytes HB.out m))
            rw [hpf, show ((P0 + m : Nat) : Int) = (P0 : Int) + (m : Int) by push_cast; rfl] at this
            exact this.mono (fun e w' ⟨y', he, h2, h3⟩ => ⟨y', he, h2, hb.trans (h3.mono hb.size), h3⟩)
          rw [hI]
          clear hM hg hg' hpf hgp
          go_upto_region 17 with (fail)
          have H2 := Lib.hid (HM0.out.later (Below.drew (Below.refl _ _)))
          refine wp_region_held_drew (S := fun _ => True) (by kernel_rfl) (trivial) (fun _ => ?_)
          refine wpAnyH_take (i := 2) (v := .int .i64 (a : Int)) rfl (by kernel_rfl) (by kernel_rfl) (by kernel_rfl) (fun _ _ _ h => h) (yv (by rfl) (fun _ => by first | rfl | go_simp)) (trivial) ?_
          change wpAnyH _ _ _ _ _ _ _ (Act.put _ (some 71) _) _
          simp only [Act.put, List.setIfInBounds_toArray, List.set_cons_zero, List.set_cons_succ]
          refine wpAnyH_take (i := 3) (v := .int .i64 (j : Int)) rfl (by kernel_rfl) (by kernel_rfl) (by kernel_rfl) (fun _ _ _ h => h) (yv (by rfl) (fun _ => by first | rfl | go_simp)) (trivial) ?_
          change wpAnyH _ _ _ _ _ _ _ (Act.put _ (some 72) _) _
          simp only [Act.put, List.setIfInBounds_toArray, List.set_cons_zero, List.set_cons_succ]
          refine wpAnyH_take (i := 5) (v := .int .i64 (I : Int)) rfl (by kernel_rfl) (by kernel_rfl) (by kernel_rfl) (fun _ _ _ h => h) (yv (by rfl) (fun _ => by first | rfl | go_simp)) (trivial) ?_
          change wpAnyH _ _ _ _ _ _ _ (Act.put _ (some 74) _) _
          simp only [Act.put, List.setIfInBounds_toArray, List.set_cons_zero, List.set_cons_succ]
          refine wpAnyH_take (i := 6) (v := .int .i64 (m : Int)) rfl (by kernel_rfl) (by kernel_rfl) (by kernel_rfl) (fun _ _ _ h => h) (yv (by rfl) (fun _ => by first | rfl | go_simp)) (trivial) ?_
          change wpAnyH _ _ _ _ _ _ _ (Act.put _ (some 75) _) _
          simp only [Act.put, List.setIfInBounds_toArray, List.set_cons_zero, List.set_cons_succ]
          refine wpAnyH_take (i := 8) (v := .slice (some ⟨bb, off, none⟩) n c) rfl (by kernel_rfl) (by kernel_rfl) (by kernel_rfl) (fun _ _ _ h => h) (yv (by rfl) (fun _ => by first | rfl | go_simp)) (trivial) ?_
          change wpAnyH _ _ _ _ _ _ _ (Act.put _ (some 77) _) _
          simp only [Act.put, List.setIfInBounds_toArray, List.set_cons_zero, List.set_cons_succ]
          refine wpAnyH_take (i := 9) (v := .int .i64 (I : Int)) rfl (by kernel_rfl) (by kernel_rfl) (by kernel_rfl) (fun _ _ _ h => h) (yv (by rfl) (fun _ => by first | rfl | go_simp)) (trivial) ?_
          change wpAnyH _ _ _ _ _ _ _ (Act.put _ (some 78) _) _
          simp only [Act.put, List.setIfInBounds_toArray, List.set_cons_zero, List.set_cons_succ]
          refine wpAnyH_take (i := 10) (v := .int .i64 (I : Int)) rfl (by kernel_rfl) (by kernel_rfl) (by kernel_rfl) (fun _ _ _ h => h) (yv (by rfl) (fun _ => by first | rfl | go_simp)) (trivial) ?_
          change wpAnyH _ _ _ _ _ _ _ (Act.put _ (some 79) _) _
          simp only [Act.put, List.setIfInBounds_toArray, List.set_cons_zero, List.set_cons_succ]
          refine wpAnyH_take (i := 11) (v := .int .i64 ((I : Int) + 64)) rfl (by kernel_rfl) (by kernel_rfl) (by kernel_rfl) (fun _ _ _ h => h) (yv (by rfl) (fun _ => by first | rfl | go_simp)) (trivial) ?_
          change wpAnyH _ _ _ _ _ _ _ (Act.put _ (some 80) _) _
          simp only [Act.put, List.setIfInBounds_toArray, List.set_cons_zero, List.set_cons_succ]
          refine wpAnyH_take (i := 12) (v := .slice (some ⟨bb, off, none⟩) n c) rfl (by kernel_rfl) (by kernel_rfl) (by kernel_rfl) (fun _ _ _ h => h) (yv (by rfl) (fun _ => by first | rfl | go_simp)) (trivial) ?_
          change wpAnyH _ _ _ _ _ _ _ (Act.put _ (some 81) _) _
          simp only [Act.put, List.setIfInBounds_toArray, List.set_cons_zero, List.set_cons_succ]
          refine wpAnyH_take (i := 13) (v := .int .i64 (n : Int)) rfl (by kernel_rfl) (by kernel_rfl) (by kernel_rfl) (fun _ _ _ h => h) (yv (by rfl) (fun _ => by first | rfl | go_simp)) (trivial) ?_
          change wpAnyH _ _ _ _ _ _ _ (Act.put _ (some 82) _) _
          simp only [Act.put, List.setIfInBounds_toArray, List.set_cons_zero, List.set_cons_succ]
          refine wpAnyH_take (i := 14) (v := .int .i64 ((I : Int) + (M : Int))) rfl (by kernel_rfl) (by kernel_rfl) (by kernel_rfl) (fun _ _ _ h => h) (yv (by rfl) (fun _ => by first | rfl | go_simp)) (trivial) ?_
          change wpAnyH _ _ _ _ _ _ _ (Act.put _ (some 83) _) _
          simp only [Act.put, List.setIfInBounds_toArray, List.set_cons_zero, List.set_cons_succ]
          refine wpAnyH_take (i := 15) (v := .slice (some ⟨bb, off + I, none⟩) M (c - I)) rfl (by kernel_rfl) (by kernel_rfl) (by kernel_rfl) (fun _ _ _ h => h) (yv (by rfl) (fun _ => by first | rfl | go_simp)) (trivial) ?_
          change wpAnyH _ _ _ _ _ _ _ (Act.put _ (some 84) _) _
          simp only [Act.put, List.setIfInBounds_toArray, List.set_cons_zero, List.set_cons_succ]
          refine wpAnyH_two (i := 0) (j := 1) (by kernel_rfl) ?_ ?_
          · refine do_row rfl (by rfl) 37 _ rfl w.heap.size rfl 37 (xa z g) _ (H2.out.row0) Try.underlying37 rfl (z37 (HXA.out z g)) ⟨trivial, ?_⟩
            change wpAnyH _ _ _ _ _ _ _ (Act.put _ (some 69) _) _
            simp only [Act.put, List.setIfInBounds_toArray, List.set_cons_zero, List.set_cons_succ]
            refine wpAnyH_one (i := 1) (by kernel_rfl) ?_
            refine do_row rfl (by rfl) 37 _ rfl w.heap.size rfl 37 (xa z g) _ (H2.out.row0) Try.underlying37 rfl (z37 (HXA.out z g)) ⟨trivial, ?_⟩
            change wpAnyH _ _ _ _ _ _ _ (Act.put _ (some 70) _) _
            simp only [Act.put, List.setIfInBounds_toArray, List.set_cons_zero, List.set_cons_succ]
            refine wpAnyH_one (i := 4) (by kernel_rfl) ?_
            refine do_call (n := 71) (al := [.agg (xa z g), .int .i64 (a : Int), .int .i64 (j : Int), .int .i64 0]) rfl (by rfl) _ _ rfl (by rfl) ent71 ?_
            (with_reducible refine (HPAG.out _ (Below.drew (Below.refl _ _))).mono ?_)
            rintro e v5 ⟨rfl, hb5, hb5'⟩
            have H3 := Lib.hid (H2.out.later (hb5'))
            refine ⟨_, rfl, trivial, ?_⟩
            change wpAnyH _ _ _ _ _ _ _ (Act.put _ (some 73) _) _
            simp only [Act.put, List.setIfInBounds_toArray, List.set_cons_zero, List.set_cons_succ]
            refine wpAnyH_take (i := 7) (v := .int .i64 ((P0 : Int) + (m : Int))) rfl (by kernel_rfl) (by kernel_rfl) (by kernel_rfl) (fun _ _ _ h => h) (yv (by rfl) (fun _ => by first | rfl | go_simp)) (trivial) ?_
            change wpAnyH _ _ _ _ _ _ _ (Act.put _ (some 76) _) _
            simp only [Act.put, List.setIfInBounds_toArray, List.set_cons_zero, List.set_cons_succ]
            refine wpAnyH_one (i := 16) (by kernel_rfl) ?_
            refine do_call (n := 72) (al := [.slice (some ⟨bb, off + I, none⟩) M (c - I)]) rfl (by rfl) _ _ rfl (by rfl) ent72 ?_
            (with_reducible refine (HFUL.out _ (hb5)).mono ?_)
            rintro e v6 ⟨A6, c6, rfl, hc61, hc62, hr6, hb6, hb6'⟩
            have H4 := Lib.hid (H3.out.later (hb6'))
            refine ⟨_, rfl, trivial, ?_⟩
            change wpAnyH _ _ _ _ _ _ _ (Act.put _ (some 85) _) _
            simp only [Act.put, List.setIfInBounds_toArray, List.set_cons_zero, List.set_cons_succ]
            refine wpAnyH_one (i := 17) (by kernel_rfl) ?_
            refine do_call (n := 70) (al := [.agg (xa z g), .int .i64 ((P0 : Int) + (m : Int)), .slice A6 64 c6]) rfl (by rfl) _ _ rfl (by rfl) ent70 ?_
            (with_reducible refine (HPR.out _ (hb6) A6 c6 hr6 hc61 hc62).mono ?_)
            rintro e v7 ⟨y7, rfl, hr7, hb7, hb7'⟩
            have H5 := Lib.hid (H4.out.later (hb7'))
            have HR7 := Lib.hid hr7
            refine ⟨_, rfl, trivial, ?_⟩
            change wpAnyH _ _ _ _ _ _ _ (Act.put _ (some 86) _) _
            simp only [Act.put, List.setIfInBounds_toArray, List.set_cons_zero, List.set_cons_succ]
            refine wpAnyH_take (i := 18) (v := (.tuple #[.agg (xa y7 g'), .int .i64 0])) rfl (by kernel_rfl) (by kernel_rfl) (by kernel_rfl) (fun _ _ _ h => h) (yv (by rfl) (fun _ => by first | rfl | go_simp)) (trivial) ?_
            change wpAnyH _ _ _ _ _ _ _ (Act.put _ (some 68) _) _
            simp only [Act.put, List.setIfInBounds_toArray, List.set_cons_zero, List.set_cons_succ]
            refine wpAnyH_take (i := 19) (v := (.agg (xa y7 g'))) rfl (by kernel_rfl) (by kernel_rfl) (by kernel_rfl) (fun _ _ _ h => h) (yv (by rfl) (fun _ => by first | rfl | go_simp)) (trivial) ?_
            change wpAnyH _ _ _ _ _ _ _ (Act.put _ (some 87) _) _
            simp only [Act.put, List.setIfInBounds_toArray, List.set_cons_zero, List.set_cons_succ]
            refine wpAnyH_take (i := 20) (v := .int .i64 0) rfl (by kernel_rfl) (by kernel_rfl) (by kernel_rfl) (fun _ _ _ h => h) (yv (by rfl) (fun _ => by first | rfl | go_simp)) (trivial) ?_
            change wpAnyH _ _ _ _ _ _ _ (Act.put _ (some 88) _) _
            simp only [Act.put, List.setIfInBounds_toArray, List.set_cons_zero, List.set_cons_succ]
            refine wpAnyH_one (i := 21) (by kernel_rfl) ?_
            refine do_store rfl (by rfl) rfl 37 _ _ rfl w.heap.size (xa y7 g') _ rfl rfl 37 (H5.out.row0) (z37 (HXA.out y7 g')) ((HXA.out z g).trans (HXA.out y7 g').symm) (HXO.out y7 g') ?_
            have H6 := Lib.hid (H5.out.put0 (xa y7 g'))
            have HR76 := Lib.hid (HR7.out.onlyX (OnlyX.row v7 w.heap.size (xa y7 g') (xf0 _ _)))
            obtain ⟨w6, hw6⟩ : ∃ wv, v7.setRow w.heap.size (xa y7 g') = wv := ⟨_, rfl⟩
            rw [hw6] at H6 HR76
            try rw [hw6]
            clear hw6
            refine ⟨trivial, ?_⟩
            refine wpAnyH_take (i := 22) (v := .int .i64 0) rfl (by kernel_rfl) (by kernel_rfl) (by kernel_rfl) (fun _ _ _ h => h) (yv (by rfl) (fun _ => by first | rfl | go_simp)) (trivial) ?_
            change wpAnyH _ _ _ _ _ _ _ (Act.put _ (some 13) _) _
            simp only [Act.put, List.setIfInBounds_toArray, List.set_cons_zero, List.set_cons_succ]
            refine wpAnyH_done (by kernel_rfl) ?_ _
            clear hb5 hb5' hb6 hb6' hr6 hb7 hb7' hr7
            go_wp2
            go_roundw
            case rel => exact ⟨m + 1, y7, by omega, by go_num, by rw [HG'.out]; exact H6.out, by rw [HG'.out]; exact HR76.out⟩
            case measure => simp [intOf]; omega
          · refine do_row rfl (by rfl) 37 _ rfl w.heap.size rfl 37 (xa z g) _ (H2.out.row0) Try.underlying37 rfl (z37 (HXA.out z g)) ⟨trivial, ?_⟩
            change wpAnyH _ _ _ _ _ _ _ (Act.put _ (some 70) _) _
            simp only [Act.put, List.setIfInBounds_toArray, List.set_cons_zero, List.set_cons_succ]
            refine wpAnyH_two (i := 0) (j := 4) (by kernel_rfl) ?_ ?_
            · refine do_row rfl (by rfl) 37 _ rfl w.heap.size rfl 37 (xa z g) _ (H2.out.row0) Try.underlying37 rfl (z37 (HXA.out z g)) ⟨trivial, ?_⟩
              change wpAnyH _ _ _ _ _ _ _ (Act.put _ (some 69) _) _
              simp only [Act.put, List.setIfInBounds_toArray, List.set_cons_zero, List.set_cons_succ]
              refine wpAnyH_one (i := 4) (by kernel_rfl) ?_
              refine do_call (n := 71) (al := [.agg (xa z g), .int .i64 (a : Int), .int .i64 (j : Int), .int .i64 0]) rfl (by rfl) _ _ rfl (by rfl) ent71 ?_
              (with_reducible refine (HPAG.out _ (Below.drew (Below.refl _ _))).mono ?_)
              rintro e v5 ⟨rfl, hb5, hb5'⟩
              have H3 := Lib.hid (H2.out.later (hb5'))
              refine ⟨_, rfl, trivial, ?_⟩
              change wpAnyH _ _ _ _ _ _ _ (Act.put _ (some 73) _) _
              simp only [Act.put, List.setIfInBounds_toArray, List.set_cons_zero, List.set_cons_succ]
              refine wpAnyH_take (i := 7) (v := .int .i64 ((P0 : Int) + (m : Int))) rfl (by kernel_rfl) (by kernel_rfl) (by kernel_rfl) (fun _ _ _ h => h) (yv (by rfl) (fun _ => by first | rfl | go_simp)) (trivial) ?_
              change wpAnyH _ _ _ _ _ _ _ (Act.put _ (some 76) _) _
              simp only [Act.put, List.setIfInBounds_toArray, List.set_cons_zero, List.set_cons_succ]
              refine wpAnyH_one (i := 16) (by kernel_rfl) ?_
              refine do_call (n := 72) (al := [.slice (some ⟨bb, off + I, none⟩) M (c - I)]) rfl (by rfl) _ _ rfl (by rfl) ent72 ?_
              (with_reducible refine (HFUL.out _ (hb5)).mono ?_)
              rintro e v6 ⟨A6, c6, rfl, hc61, hc62, hr6, hb6, hb6'⟩
              have H4 := Lib.hid (H3.out.later (hb6'))
              refine ⟨_, rfl, trivial, ?_⟩
              change wpAnyH _ _ _ _ _ _ _ (Act.put _ (some 85) _) _
              simp only [Act.put, List.setIfInBounds_toArray, List.set_cons_zero, List.set_cons_succ]
              refine wpAnyH_one (i := 17) (by kernel_rfl) ?_
              refine do_call (n := 70) (al := [.agg (xa z g), .int .i64 ((P0 : Int) + (m : Int)), .slice A6 64 c6]) rfl (by rfl) _ _ rfl (by rfl) ent70 ?_
              (with_reducible refine (HPR.out _ (hb6) A6 c6 hr6 hc61 hc62).mono ?_)
              rintro e v7 ⟨y7, rfl, hr7, hb7, hb7'⟩
              have H5 := Lib.hid (H4.out.later (hb7'))
              have HR7 := Lib.hid hr7
              refine ⟨_, rfl, trivial, ?_⟩
              change wpAnyH _ _ _ _ _ _ _ (Act.put _ (some 86) _) _
              simp only [Act.put, List.setIfInBounds_toArray, List.set_cons_zero, List.set_cons_succ]
              refine wpAnyH_take (i := 18) (v := (.tuple #[.agg (xa y7 g'), .int .i64 0])) rfl (by kernel_rfl) (by kernel_rfl) (by kernel_rfl) (fun _ _ _ h => h) (yv (by rfl) (fun _ => by first | rfl | go_simp)) (trivial) ?_
              change wpAnyH _ _ _ _ _ _ _ (Act.put _ (some 68) _) _
              simp only [Act.put, List.setIfInBounds_toArray, List.set_cons_zero, List.set_cons_succ]
              refine wpAnyH_take (i := 19) (v := (.agg (xa y7 g'))) rfl (by kernel_rfl) (by kernel_rfl) (by kernel_rfl) (fun _ _ _ h => h) (yv (by rfl) (fun _ => by first | rfl | go_simp)) (trivial) ?_
              change wpAnyH _ _ _ _ _ _ _ (Act.put _ (some 87) _) _
              simp only [Act.put, List.setIfInBounds_toArray, List.set_cons_zero, List.set_cons_succ]
              refine wpAnyH_take (i := 20) (v := .int .i64 0) rfl (by kernel_rfl) (by kernel_rfl) (by kernel_rfl) (fun _ _ _ h => h) (yv (by rfl) (fun _ => by first | rfl | go_simp)) (trivial) ?_
              change wpAnyH _ _ _ _ _ _ _ (Act.put _ (some 88) _) _
              simp only [Act.put, List.setIfInBounds_toArray, List.set_cons_zero, List.set_cons_succ]
              refine wpAnyH_one (i := 21) (by kernel_rfl) ?_
              refine do_store rfl (by rfl) rfl 37 _ _ rfl w.heap.size (xa y7 g') _ rfl rfl 37 (H5.out.row0) (z37 (HXA.out y7 g')) ((HXA.out z g).trans (HXA.out y7 g').symm) (HXO.out y7 g') ?_
              have H6 := Lib.hid (H5.out.put0 (xa y7 g'))
              have HR76 := Lib.hid (HR7.out.onlyX (OnlyX.row v7 w.heap.size (xa y7 g') (xf0 _ _)))
              obtain ⟨w6, hw6⟩ : ∃ wv, v7.setRow w.heap.size (xa y7 g') = wv := ⟨_, rfl⟩
              rw [hw6] at H6 HR76
              try rw [hw6]
              clear hw6
              refine ⟨trivial, ?_⟩
              refine wpAnyH_take (i := 22) (v := .int .i64 0) rfl (by kernel_rfl) (by kernel_rfl) (by kernel_rfl) (fun _ _ _ h => h) (yv (by rfl) (fun _ => by first | rfl | go_simp)) (trivial) ?_
              change wpAnyH _ _ _ _ _ _ _ (Act.put _ (some 13) _) _
              simp only [Act.put, List.setIfInBounds_toArray, List.set_cons_zero, List.set_cons_succ]
              refine wpAnyH_done (by kernel_rfl) ?_ _
              clear hb5 hb5' hb6 hb6' hr6 hb7 hb7' hr7
              go_wp2
              go_roundw
              case rel => exact ⟨m + 1, y7, by omega, by go_num, by rw [HG'.out]; exact H6.out, by rw [HG'.out]; exact HR76.out⟩
              case measure => simp [intOf]; omega
            · refine do_call (n := 71) (al := [.agg (xa z g), .int .i64 (a : Int), .int .i64 (j : Int), .int .i64 0]) rfl (by rfl) _ _ rfl (by rfl) ent71 ?_
              (with_reducible refine (HPAG.out _ (Below.drew (Below.refl _ _))).mono ?_)
              rintro e v5 ⟨rfl, hb5, hb5'⟩
              have H3 := Lib.hid (H2.out.later (hb5'))
              refine ⟨_, rfl, trivial, ?_⟩
              change wpAnyH _ _ _ _ _ _ _ (Act.put _ (some 73) _) _
              simp only [Act.put, List.setIfInBounds_toArray, List.set_cons_zero, List.set_cons_succ]
              refine wpAnyH_take (i := 7) (v := .int .i64 ((P0 : Int) + (m : Int))) rfl (by kernel_rfl) (by kernel_rfl) (by kernel_rfl) (fun _ _ _ h => h) (yv (by rfl) (fun _ => by first | rfl | go_simp)) (trivial) ?_
              change wpAnyH _ _ _ _ _ _ _ (Act.put _ (some 76) _) _
              simp only [Act.put, List.setIfInBounds_toArray, List.set_cons_zero, List.set_cons_succ]
              refine wpAnyH_two (i := 0) (j := 16) (by kernel_rfl) ?_ ?_
              · refine do_row rfl (by rfl) 37 _ rfl w.heap.size rfl 37 (xa z g) _ (H3.out.row0) Try.underlying37 rfl (z37 (HXA.out z g)) ⟨trivial, ?_⟩
                change wpAnyH _ _ _ _ _ _ _ (Act.put _ (some 69) _) _
                simp only [Act.put, List.setIfInBounds_toArray, List.set_cons_zero, List.set_cons_succ]
                refine wpAnyH_one (i := 16) (by kernel_rfl) ?_
                refine do_call (n := 72) (al := [.slice (some ⟨bb, off + I, none⟩) M (c - I)]) rfl (by rfl) _ _ rfl (by rfl) ent72 ?_
                (with_reducible refine (HFUL.out _ (hb5)).mono ?_)
                rintro e v6 ⟨A6, c6, rfl, hc61, hc62, hr6, hb6, hb6'⟩
                have H4 := Lib.hid (H3.out.later (hb6'))
                refine ⟨_, rfl, trivial, ?_⟩
                change wpAnyH _ _ _ _ _ _ _ (Act.put _ (some 85) _) _
                simp only [Act.put, List.setIfInBounds_toArray, List.set_cons_zero, List.set_cons_succ]
                refine wpAnyH_one (i := 17) (by kernel_rfl) ?_
                refine do_call (n := 70) (al := [.agg (xa z g), .int .i64 ((P0 : Int) + (m : Int)), .slice A6 64 c6]) rfl (by rfl) _ _ rfl (by rfl) ent70 ?_
                (with_reducible refine (HPR.out _ (hb6) A6 c6 hr6 hc61 hc62).mono ?_)
                rintro e v7 ⟨y7, rfl, hr7, hb7, hb7'⟩
                have H5 := Lib.hid (H4.out.later (hb7'))
                have HR7 := Lib.hid hr7
                refine ⟨_, rfl, trivial, ?_⟩
                change wpAnyH _ _ _ _ _ _ _ (Act.put _ (some 86) _) _
                simp only [Act.put, List.setIfInBounds_toArray, List.set_cons_zero, List.set_cons_succ]
                refine wpAnyH_take (i := 18) (v := (.tuple #[.agg (xa y7 g'), .int .i64 0])) rfl (by kernel_rfl) (by kernel_rfl) (by kernel_rfl) (fun _ _ _ h => h) (yv (by rfl) (fun _ => by first | rfl | go_simp)) (trivial) ?_
                change wpAnyH _ _ _ _ _ _ _ (Act.put _ (some 68) _) _
                simp only [Act.put, List.setIfInBounds_toArray, List.set_cons_zero, List.set_cons_succ]
                refine wpAnyH_take (i := 19) (v := (.agg (xa y7 g'))) rfl (by kernel_rfl) (by kernel_rfl) (by kernel_rfl) (fun _ _ _ h => h) (yv (by rfl) (fun _ => by first | rfl | go_simp)) (trivial) ?_
                change wpAnyH _ _ _ _ _ _ _ (Act.put _ (some 87) _) _
                simp only [Act.put, List.setIfInBounds_toArray, List.set_cons_zero, List.set_cons_succ]
                refine wpAnyH_take (i := 20) (v := .int .i64 0) rfl (by kernel_rfl) (by kernel_rfl) (by kernel_rfl) (fun _ _ _ h => h) (yv (by rfl) (fun _ => by first | rfl | go_simp)) (trivial) ?_
                change wpAnyH _ _ _ _ _ _ _ (Act.put _ (some 88) _) _
                simp only [Act.put, List.setIfInBounds_toArray, List.set_cons_zero, List.set_cons_succ]
                refine wpAnyH_one (i := 21) (by kernel_rfl) ?_
                refine do_store rfl (by rfl) rfl 37 _ _ rfl w.heap.size (xa y7 g') _ rfl rfl 37 (H5.out.row0) (z37 (HXA.out y7 g')) ((HXA.out z g).trans (HXA.out y7 g').symm) (HXO.out y7 g') ?_
                have H6 := Lib.hid (H5.out.put0 (xa y7 g'))
                have HR76 := Lib.hid (HR7.out.onlyX (OnlyX.row v7 w.heap.size (xa y7 g') (xf0 _ _)))
                obtain ⟨w6, hw6⟩ : ∃ wv, v7.setRow w.heap.size (xa y7 g') = wv := ⟨_, rfl⟩
                rw [hw6] at H6 HR76
                try rw [hw6]
                clear hw6
                refine ⟨trivial, ?_⟩
                refine wpAnyH_take (i := 22) (v := .int .i64 0) rfl (by kernel_rfl) (by kernel_rfl) (by kernel_rfl) (fun _ _ _ h => h) (yv (by rfl) (fun _ => by first | rfl | go_simp)) (trivial) ?_
                change wpAnyH _ _ _ _ _ _ _ (Act.put _ (some 13) _) _
                simp only [Act.put, List.setIfInBounds_toArray, List.set_cons_zero, List.set_cons_succ]
                refine wpAnyH_done (by kernel_rfl) ?_ _
                clear hb5 hb5' hb6 hb6' hr6 hb7 hb7' hr7
                go_wp2
                go_roundw
                case rel => exact ⟨m + 1, y7, by omega, by go_num, by rw [HG'.out]; exact H6.out, by rw [HG'.out]; exact HR76.out⟩
                case measure => simp [intOf]; omega
              · refine do_call (n := 72) (al := [.slice (some ⟨bb, off + I, none⟩) M (c - I)]) rfl (by rfl) _ _ rfl (by rfl) ent72 ?_
                (with_reducible refine (HFUL.out _ (hb5)).mono ?_)
                rintro e v6 ⟨A6, c6, rfl, hc61, hc62, hr6, hb6, hb6'⟩
                have H4 := Lib.hid (H3.out.later (hb6'))
                refine ⟨_, rfl, trivial, ?_⟩
                change wpAnyH _ _ _ _ _ _ _ (Act.put _ (some 85) _) _
                simp only [Act.put, List.setIfInBounds_toArray, List.set_cons_zero, List.set_cons_succ]
                refine wpAnyH_one (i := 0) (by kernel_rfl) ?_
                refine do_row rfl (by rfl) 37 _ rfl w.heap.size rfl 37 (xa z g) _ (H4.out.row0) Try.underlying37 rfl (z37 (HXA.out z g)) ⟨trivial, ?_⟩
                change wpAnyH _ _ _ _ _ _ _ (Act.put _ (some 69) _) _
                simp only [Act.put, List.setIfInBounds_toArray, List.set_cons_zero, List.set_cons_succ]
                refine wpAnyH_one (i := 17) (by kernel_rfl) ?_
                refine do_call (n := 70) (al := [.agg (xa z g), .int .i64 ((P0 : Int) + (m : Int)), .slice A6 64 c6]) rfl (by rfl) _ _ rfl (by rfl) ent70 ?_
                (with_reducible refine (HPR.out _ (hb6) A6 c6 hr6 hc61 hc62).mono ?_)
                rintro e v7 ⟨y7, rfl, hr7, hb7, hb7'⟩
                have H5 := Lib.hid (H4.out.later (hb7'))
                have HR7 := Lib.hid hr7
                refine ⟨_, rfl, trivial, ?_⟩
                change wpAnyH _ _ _ _ _ _ _ (Act.put _ (some 86) _) _
                simp only [Act.put, List.setIfInBounds_toArray, List.set_cons_zero, List.set_cons_succ]
                refine wpAnyH_take (i := 18) (v := (.tuple #[.agg (xa y7 g'), .int .i64 0])) rfl (by kernel_rfl) (by kernel_rfl) (by kernel_rfl) (fun _ _ _ h => h) (yv (by rfl) (fun _ => by first | rfl | go_simp)) (trivial) ?_
                change wpAnyH _ _ _ _ _ _ _ (Act.put _ (some 68) _) _
                simp only [Act.put, List.setIfInBounds_toArray, List.set_cons_zero, List.set_cons_succ]
                refine wpAnyH_take (i := 19) (v := (.agg (xa y7 g'))) rfl (by kernel_rfl) (by kernel_rfl) (by kernel_rfl) (fun _ _ _ h => h) (yv (by rfl) (fun _ => by first | rfl | go_simp)) (trivial) ?_
                change wpAnyH _ _ _ _ _ _ _ (Act.put _ (some 87) _) _
                simp only [Act.put, List.setIfInBounds_toArray, List.set_cons_zero, List.set_cons_succ]
                refine wpAnyH_take (i := 20) (v := .int .i64 0) rfl (by kernel_rfl) (by kernel_rfl) (by kernel_rfl) (fun _ _ _ h => h) (yv (by rfl) (fun _ => by first | rfl | go_simp)) (trivial) ?_
                change wpAnyH _ _ _ _ _ _ _ (Act.put _ (some 88) _) _
                simp only [Act.put, List.setIfInBounds_toArray, List.set_cons_zero, List.set_cons_succ]
                refine wpAnyH_one (i := 21) (by kernel_rfl) ?_
                refine do_store rfl (by rfl) rfl 37 _ _ rfl w.heap.size (xa y7 g') _ rfl rfl 37 (H5.out.row0) (z37 (HXA.out y7 g')) ((HXA.out z g).trans (HXA.out y7 g').symm) (HXO.out y7 g') ?_
                have H6 := Lib.hid (H5.out.put0 (xa y7 g'))
                have HR76 := Lib.hid (HR7.out.onlyX (OnlyX.row v7 w.heap.size (xa y7 g') (xf0 _ _)))
                obtain ⟨w6, hw6⟩ : ∃ wv, v7.setRow w.heap.size (xa y7 g') = wv := ⟨_, rfl⟩
                rw [hw6] at H6 HR76
                try rw [hw6]
                clear hw6
                refine ⟨trivial, ?_⟩
                refine wpAnyH_take (i := 22) (v := .int .i64 0) rfl (by kernel_rfl) (by kernel_rfl) (by kernel_rfl) (fun _ _ _ h => h) (yv (by rfl) (fun _ => by first | rfl | go_simp)) (trivial) ?_
                change wpAnyH _ _ _ _ _ _ _ (Act.put _ (some 13) _) _
                simp only [Act.put, List.setIfInBounds_toArray, List.set_cons_zero, List.set_cons_succ]
                refine wpAnyH_done (by kernel_rfl) ?_ _
                clear hb5 hb5' hb6 hb6' hr6 hb7 hb7' hr7
                go_wp2
                go_roundw
                case rel => exact ⟨m + 1, y7, by omega, by go_num, by rw [HG'.out]; exact H6.out, by rw [HG'.out]; exact HR76.out⟩
                case measure => simp [intOf]; omega
        · have hmn : m = np := by omega
          subst hmn
          have HFG : Hid (Fr w wr [(xa z G, 37), (zF, 37)]) := by rw [HG.out]; exact HM0.out
          have HRG2 : Hid (RAt (XF X w.heap.size 2) wr z G) := by rw [HG.out]; exact HRM.out
          have hIn : ¬ ((I : Int) < (n : Int)) := by omega
          rw [hI]
          obtain ⟨s0, hs0⟩ : ∃ s, openF G a 2 (fwSpec N) = s := ⟨_, rfl⟩
          rw [hs0] at HS0 HX3 HX4 HX5 HX6 HSF
          have HSE := Lib.hid hs0
          have HSZ2 : Hid (∀ W, Below wr.heap.size wr W → Calls Try.prog 61 #[.agg (xa z G), .int .i64 (j : Int)] W fun e w' => e = .returned (.int .i64 (N : Int)) ∧ Below wr.heap.size wr w' ∧ Below W.heap.size W w') := fun W hb => by
            have := rsize_r HRG2.out k HK8.out (j : Int) (by rw [← HKK.out]) W
            rw [HKK.out, HN2.out] at this
            exact this.mono (fun e w' ⟨he, hb2⟩ => ⟨he, hb.trans (hb2.mono hb.size), hb2⟩)
          have HSP : Hid (∀ W, Below wr.heap.size wr W → Calls Try.prog 60 #[.int .i64 (N : Int)] W fun e w' => ∃ A c, e = .returned (.slice A 9 c) ∧ 9 ≤ c ∧ c ≤ maxLen ∧ Rd w' w'.heap.size A (pcells (fwSpec N)) ∧ Below wr.heap.size wr w' ∧ Below W.heap.size W w') := fun W hb => (rspec_r N (by omega) W).mono (fun e w' ⟨A, c, he, h1, h2, h3, hb2⟩ => ⟨A, c, he, h1, h2, h3, hb.trans (hb2.mono hb.size), hb2⟩)
          have HOP0 := Lib.hid (fun (W : World) (hb : Below wr.heap.size wr W) (A' : Option Addr) (c' : Nat) hA h1 h2 => ropen51 (HRG2.out.wide hb) (fun b hb' => hb'.elim (fun e => Nat.lt_of_lt_of_le (XF.lt HX.out HFG.out.len b e) hb.size) (fun e => e.2)) HE2.out rfl (N := N) (by omega) A' c' hA h1 h2)
          rw [hs0] at HOP0
          have HOP : Hid (∀ w3, Below wr.heap.size wr w3 → ∀ W, Below w3.heap.size w3 W → ∀ A' c', Rd w3 w3.heap.size A' (pcells (fwSpec N)) → 9 ≤ c' → c' ≤ maxLen → Calls Try.prog 59 #[.agg (xa z G), .int .i64 (a : Int), .int .i64 2, .slice A' 9 c'] W fun e w' => ∃ q : Qv, e = .returned (.tuple #[.agg (sa q s0), .int .i64 0]) ∧ RvA (XW (XF X w.heap.size 2) wr.heap.size W.heap.size) w' q s0 G.pg ∧ Below wr.heap.size wr w' ∧ Below W.heap.size W w') := fun w3 hb3 W hbx A' c' h1 h2 h3 =>
            have hb := hb3.trans (hbx.mono hb3.size)
            (HOP0.out W hb A' c' ((h1.below hbx (Nat.le_refl _)).more hbx.size) h2 h3).mono (fun e w' ⟨q, he, hb2, h4⟩ => ⟨q, he, h4, hb.trans (hb2.mono hb.size), hb2⟩)
          clear hs0
          go_upto_region 20 with (fail)
          go_cut [16, 17] (fun p cd wx => ∃ (B5 : Nat) (q : Qv), p = .pointer (some ⟨B5, 0, none⟩) ∧ cd = .int .i64 0 ∧ Fs X w wx z G B5 q s0)
          case first =>
            have H2 := Lib.hid (HFG.out.later (Below.drew (Below.refl _ _)))
            refine wp_region_held_drew (S := fun w' => w'.heap[w.heap.size]? = some (.cells (xa z G) 37 (0, 0))) (by kernel_rfl) (H2.out.row0) (fun _ => ?_)
            refine wpAnyH_take (i := 0) (v := .agg (xa z G)) rfl (by kernel_rfl) (by kernel_rfl) (by kernel_rfl) (fun _ _ _ h => h) (yl37 (by rfl) _ rfl w.heap.size rfl (xa z G) (fun _ hS => hS) (HXA.out z G)) (H2.out.row0) ?_
            change wpAnyH _ _ _ _ _ _ _ (Act.put _ (some 93) _) _
            simp only [Act.put, List.setIfInBounds_toArray, List.set_cons_zero, List.set_cons_succ]
            refine wpAnyH_take (i := 1) (v := .int .i64 (a : Int)) rfl (by kernel_rfl) (by kernel_rfl) (by kernel_rfl) (fun _ _ _ h => h) (yv (by rfl) (fun _ => by first | rfl | go_simp)) (H2.out.row0) ?_
            change wpAnyH _ _ _ _ _ _ _ (Act.put _ (some 94) _) _
            simp only [Act.put, List.setIfInBounds_toArray, List.set_cons_zero, List.set_cons_succ]
            refine wpAnyH_take (i := 2) (v := .agg (xa z G)) rfl (by kernel_rfl) (by kernel_rfl) (by kernel_rfl) (fun _ _ _ h => h) (yl37 (by rfl) _ rfl w.heap.size rfl (xa z G) (fun _ hS => hS) (HXA.out z G)) (H2.out.row0) ?_
            change wpAnyH _ _ _ _ _ _ _ (Act.put _ (some 95) _) _
            simp only [Act.put, List.setIfInBounds_toArray, List.set_cons_zero, List.set_cons_succ]
            refine wpAnyH_take (i := 3) (v := .int .i64 (j : Int)) rfl (by kernel_rfl) (by kernel_rfl) (by kernel_rfl) (fun _ _ _ h => h) (yv (by rfl) (fun _ => by first | rfl | go_simp)) (H2.out.row0) ?_
            change wpAnyH _ _ _ _ _ _ _ (Act.put _ (some 96) _) _
            simp only [Act.put, List.setIfInBounds_toArray, List.set_cons_zero, List.set_cons_succ]
            refine wpAnyH_two (i := 4) (j := 10) (by kernel_rfl) ?_ ?_
            · refine do_call (n := 61) (al := [.agg (xa z G), .int .i64 (j : Int)]) rfl (by rfl) _ _ rfl (by rfl) ent61 ?_
              (with_reducible refine (HSZ2.out _ (Below.drew (Below.refl wr.heap.size wr))).mono ?_)
              rintro e v5 ⟨rfl, hb5, hb5'⟩
              have H3 := Lib.hid (H2.out.later (hb5'))
              refine ⟨_, rfl, H3.out.row0, ?_⟩
              change wpAnyH _ _ _ _ _ _ _ (Act.put _ (some 97) _) _
              simp only [Act.put, List.setIfInBounds_toArray, List.set_cons_zero, List.set_cons_succ]
              refine wpAnyH_two (i := 5) (j := 10) (by kernel_rfl) ?_ ?_
              · refine do_call (n := 60) (al := [.int .i64 (N : Int)]) rfl (by rfl) _ _ rfl (by rfl) ent60 ?_
                (with_reducible refine (HSP.out _ (hb5)).mono ?_)
                rintro e v6 ⟨A6, c6, rfl, hc61, hc62, hr6, hb6, hb6'⟩
                have H4 := Lib.hid (H3.out.later (hb6'))
                refine ⟨_, rfl, H4.out.row0, ?_⟩
                change wpAnyH _ _ _ _ _ _ _ (Act.put _ (some 98) _) _
                simp only [Act.put, List.setIfInBounds_toArray, List.set_cons_zero, List.set_cons_succ]
                refine wpAnyH_two (i := 6) (j := 10) (by kernel_rfl) ?_ ?_
                · refine do_call (n := 59) (al := [.agg (xa z G), .int .i64 (a : Int), .int .i64 2, .slice A6 9 c6]) rfl (by rfl) _ _ rfl (by rfl) ent59 ?_
                  (with_reducible refine (HOP.out v6 hb6 _ (Below.refl _ _) A6 c6 hr6 hc61 hc62).mono ?_)
                  rintro e v7 ⟨q7, rfl, hq7, hb7, hb7'⟩
                  have H5 := Lib.hid (H4.out.later (hb7'))
                  have HQ7 := Lib.hid hq7
                  refine ⟨_, rfl, H5.out.row0, ?_⟩
                  change wpAnyH _ _ _ _ _ _ _ (Act.put _ (some 99) _) _
                  simp only [Act.put, List.setIfInBounds_toArray, List.set_cons_zero, List.set_cons_succ]
                  refine wpAnyH_take (i := 7) (v := (.tuple #[.agg (sa q7 s0), .int .i64 0])) rfl (by kernel_rfl) (by kernel_rfl) (by kernel_rfl) (fun _ _ _ h => h) (yv (by rfl) (fun _ => by first | rfl | go_simp)) (H5.out.row0) ?_
                  change wpAnyH _ _ _ _ _ _ _ (Act.put _ (some 92) _) _
                  simp only [Act.put, List.setIfInBounds_toArray, List.set_cons_zero, List.set_cons_succ]
                  refine wpAnyH_take (i := 8) (v := (.agg (sa q7 s0))) rfl (by kernel_rfl) (by kernel_rfl) (by kernel_rfl) (fun _ _ _ h => h) (yv (by rfl) (fun _ => by first | rfl | go_simp)) (H5.out.row0) ?_
                  change wpAnyH _ _ _ _ _ _ _ (Act.put _ (some 100) _) _
                  simp only [Act.put, List.setIfInBounds_toArray, List.set_cons_zero, List.set_cons_succ]
                  refine wpAnyH_take (i := 9) (v := .int .i64 0) rfl (by kernel_rfl) (by kernel_rfl) (by kernel_rfl) (fun _ _ _ h => h) (yv (by rfl) (fun _ => by first | rfl | go_simp)) (H5.out.row0) ?_
                  change wpAnyH _ _ _ _ _ _ _ (Act.put _ (some 101) _) _
                  simp only [Act.put, List.setIfInBounds_toArray, List.set_cons_zero, List.set_cons_succ]
                  refine wpAnyH_one (i := 10) (by kernel_rfl) ?_
                  refine do_allocS rfl (by rfl) rfl ⟨(H5.out.later ((Below.refl _ _).alloc (Nat.le_refl _) _)).row0, ?_⟩
                  change wpAnyH _ _ _ _ _ _ _ (Act.put _ (some 16) _) _
                  simp only [Act.put, List.setIfInBounds_toArray, List.set_cons_zero, List.set_cons_succ]
                  obtain ⟨B5, hB5⟩ : ∃ B, (v7).heap.size = B := ⟨_, rfl⟩
                  obtain ⟨W5, hW5⟩ : ∃ W, (v7).alloc (.cells zS 46) = W := ⟨_, rfl⟩
                  have hr5 : W5.heap[B5]? = some (.cells zS 46 (0, 0)) := by rw [← hW5, ← hB5]; exact heap_alloc_new _ _
                  have hb5w : Below wr.heap.size wr W5 := by rw [← hW5]; exact (hb7).alloc (hb7).size _
                  have hx5w : Below (v7).heap.size (v7) W5 := by rw [← hW5]; exact (Below.refl _ _).alloc (Nat.le_refl _) _
                  have hle5 : wr.heap.size ≤ B5 := by rw [← hB5]; exact (hb7).size
                  have hH5 := Lib.hid (H5.out.later hx5w)
                  rw [hW5]
                  try rw [hB5]
                  clear hW5
                  refine wpAnyH_one (i := 11) (by kernel_rfl) ?_
                  refine do_store rfl (by rfl) rfl 46 _ _ rfl B5 (sa q7 s0) zS rfl rfl 46 hr5 (z46 (sa_size q7 s0)) rfl (sa_one q7 s0) ⟨(setRow_other _ _ _ _ (by have := HFG.out.len; simp only [List.length_cons, List.length_nil] at this; omega)).trans hH5.out.row0, ?_⟩
                  refine wpAnyH_take (i := 12) (v := .int .i64 0) rfl (by kernel_rfl) (by kernel_rfl) (by kernel_rfl) (fun _ _ _ h => h) (yv (by rfl) (fun _ => by first | rfl | go_simp)) ((setRow_other _ _ _ _ (by have := HFG.out.len; simp only [List.length_cons, List.length_nil] at this; omega)).trans hH5.out.row0) ?_
                  change wpAnyH _ _ _ _ _ _ _ (Act.put _ (some 17) _) _
                  simp only [Act.put, List.setIfInBounds_toArray, List.set_cons_zero, List.set_cons_succ]
                  refine wpAnyH_done (by kernel_rfl) ?_ _
                  (try go_wp2_with fail)
                  go_meet
                  exact ⟨B5, q7, rfl, rfl, Fs.new HFG.out HRG2.out hb7 hle5 HQ7.out (.inr (by rw [← hB5]; exact Nat.le_refl _)) ((OnlyX.of_below hx5w).trans (OnlyX.row _ _ _ rfl)) (below_setRow (hb5w) hle5 _) (setRow_heap _ _ _ _ _ _ hr5)⟩
                · refine do_allocS rfl (by rfl) rfl ⟨(H4.out.later ((Below.refl _ _).alloc (Nat.le_refl _) _)).row0, ?_⟩
                  change wpAnyH _ _ _ _ _ _ _ (Act.put _ (some 16) _) _
                  simp only [Act.put, List.setIfInBounds_toArray, List.set_cons_zero, List.set_cons_succ]
                  obtain ⟨B5, hB5⟩ : ∃ B, (v6).heap.size = B := ⟨_, rfl⟩
                  obtain ⟨W5, hW5⟩ : ∃ W, (v6).alloc (.cells zS 46) = W := ⟨_, rfl⟩
                  have hr5 : W5.heap[B5]? = some (.cells zS 46 (0, 0)) := by rw [← hW5, ← hB5]; exact heap_alloc_new _ _
                  have hb5w : Below wr.heap.size wr W5 := by rw [← hW5]; exact (hb6).alloc (hb6).size _
                  have hx5w : Below (v6).heap.size (v6) W5 := by rw [← hW5]; exact (Below.refl _ _).alloc (Nat.le_refl _) _
                  have hle5 : wr.heap.size ≤ B5 := by rw [← hB5]; exact (hb6).size
                  have hH5 := Lib.hid (H4.out.later hx5w)
                  rw [hW5]
                  try rw [hB5]
                  clear hW5
                  refine wpAnyH_one (i := 6) (by kernel_rfl) ?_
                  refine do_call (n := 59) (al := [.agg (xa z G), .int .i64 (a : Int), .int .i64 2, .slice A6 9 c6]) rfl (by rfl) _ _ rfl (by rfl) ent59 ?_
                  (with_reducible refine (HOP.out v6 hb6 _ (hx5w) A6 c6 hr6 hc61 hc62).mono ?_)
                  rintro e v7 ⟨q7, rfl, hq7, hb7, hb7'⟩
                  have H6 := Lib.hid (hH5.out.later (hb7'))
                  have hr5_7 := (hb7'.block _ (Array.getElem?_eq_some_iff.1 hr5).1).trans hr5
                  have HQ7 := Lib.hid hq7
                  refine ⟨_, rfl, H6.out.row0, ?_⟩
                  change wpAnyH _ _ _ _ _ _ _ (Act.put _ (some 99) _) _
                  simp only [Act.put, List.setIfInBounds_toArray, List.set_cons_zero, List.set_cons_succ]
                  refine wpAnyH_take (i := 7) (v := (.tuple #[.agg (sa q7 s0), .int .i64 0])) rfl (by kernel_rfl) (by kernel_rfl) (by kernel_rfl) (fun _ _ _ h => h) (yv (by rfl) (fun _ => by first | rfl | go_simp)) (H6.out.row0) ?_
                  change wpAnyH _ _ _ _ _ _ _ (Act.put _ (some 92) _) _
                  simp only [Act.put, List.setIfInBounds_toArray, List.set_cons_zero, List.set_cons_succ]
                  refine wpAnyH_take (i := 8) (v := (.agg (sa q7 s0))) rfl (by kernel_rfl) (by kernel_rfl) (by kernel_rfl) (fun _ _ _ h => h) (yv (by rfl) (fun _ => by first | rfl | go_simp)) (H6.out.row0) ?_
                  change wpAnyH _ _ _ _ _ _ _ (Act.put _ (some 100) _) _
                  simp only [Act.put, List.setIfInBounds_toArray, List.set_cons_zero, List.set_cons_succ]
                  refine wpAnyH_take (i := 9) (v := .int .i64 0) rfl (by kernel_rfl) (by kernel_rfl) (by kernel_rfl) (fun _ _ _ h => h) (yv (by rfl) (fun _ => by first | rfl | go_simp)) (H6.out.row0) ?_
                  change wpAnyH _ _ _ _ _ _ _ (Act.put _ (some 101) _) _
                  simp only [Act.put, List.setIfInBounds_toArray, List.set_cons_zero, List.set_cons_succ]
                  refine wpAnyH_one (i := 11) (by kernel_rfl) ?_
                  refine do_store rfl (by rfl) rfl 46 _ _ rfl B5 (sa q7 s0) zS rfl rfl 46 hr5_7 (z46 (sa_size q7 s0)) rfl (sa_one q7 s0) ⟨(setRow_other _ _ _ _ (by have := HFG.out.len; simp only [List.length_cons, List.length_nil] at this; omega)).trans H6.out.row0, ?_⟩
                  refine wpAnyH_take (i := 12) (v := .int .i64 0) rfl (by kernel_rfl) (by kernel_rfl) (by kernel_rfl) (fun _ _ _ h => h) (yv (by rfl) (fun _ => by first | rfl | go_simp)) ((setRow_other _ _ _ _ (by have := HFG.out.len; simp only [List.length_cons, List.length_nil] at this; omega)).trans H6.out.row0) ?_
                  change wpAnyH _ _ _ _ _ _ _ (Act.put _ (some 17) _) _
                  simp only [Act.put, List.setIfInBounds_toArray, List.set_cons_zero, List.set_cons_succ]
                  refine wpAnyH_done (by kernel_rfl) ?_ _
                  (try go_wp2_with fail)
                  go_meet
                  exact ⟨B5, q7, rfl, rfl, Fs.new HFG.out HRG2.out hb7 hle5 HQ7.out (.inl (Array.getElem?_eq_some_iff.1 hr5).1) (OnlyX.row _ _ _ rfl) (below_setRow (hb7) hle5 _) (setRow_heap _ _ _ _ _ _ hr5_7)⟩
              · refine do_allocS rfl (by rfl) rfl ⟨(H3.out.later ((Below.refl _ _).alloc (Nat.le_refl _) _)).row0, ?_⟩
                change wpAnyH _ _ _ _ _ _ _ (Act.put _ (some 16) _) _
                simp only [Act.put, List.setIfInBounds_toArray, List.set_cons_zero, List.set_cons_succ]
                obtain ⟨B5, hB5⟩ : ∃ B, (v5).heap.size = B := ⟨_, rfl⟩
                obtain ⟨W5, hW5⟩ : ∃ W, (v5).alloc (.cells zS 46) = W := ⟨_, rfl⟩
                have hr5 : W5.heap[B5]? = some (.cells zS 46 (0, 0)) := by rw [← hW5, ← hB5]; exact heap_alloc_new _ _
                have hb5w : Below wr.heap.size wr W5 := by rw [← hW5]; exact (hb5).alloc (hb5).size _
                have hx5w : Below (v5).heap.size (v5) W5 := by rw [← hW5]; exact (Below.refl _ _).alloc (Nat.le_refl _) _
                have hle5 : wr.heap.size ≤ B5 := by rw [← hB5]; exact (hb5).size
                have hH5 := Lib.hid (H3.out.later hx5w)
                rw [hW5]
                try rw [hB5]
                clear hW5
                refine wpAnyH_one (i := 5) (by kernel_rfl) ?_
                refine do_call (n := 60) (al := [.int .i64 (N : Int)]) rfl (by rfl) _ _ rfl (by rfl) ent60 ?_
                (with_reducible refine (HSP.out _ (hb5w)).mono ?_)
                rintro e v6 ⟨A6, c6, rfl, hc61, hc62, hr6, hb6, hb6'⟩
                have H5 := Lib.hid (hH5.out.later (hb6'))
                have hr5_6 := (hb6'.block _ (Array.getElem?_eq_some_iff.1 hr5).1).trans hr5
                refine ⟨_, rfl, H5.out.row0, ?_⟩
                change wpAnyH _ _ _ _ _ _ _ (Act.put _ (some 98) _) _
                simp only [Act.put, List.setIfInBounds_toArray, List.set_cons_zero, List.set_cons_succ]
                refine wpAnyH_one (i := 6) (by kernel_rfl) ?_
                refine do_call (n := 59) (al := [.agg (xa z G), .int .i64 (a : Int), .int .i64 2, .slice A6 9 c6]) rfl (by rfl) _ _ rfl (by rfl) ent59 ?_
                (with_reducible refine (HOP.out v6 hb6 _ (Below.refl _ _) A6 c6 hr6 hc61 hc62).mono ?_)
                rintro e v7 ⟨q7, rfl, hq7, hb7, hb7'⟩
                have H7 := Lib.hid (H5.out.later (hb7'))
                have hr5_8 := (hb7'.block _ (Array.getElem?_eq_some_iff.1 hr5_6).1).trans hr5_6
                have HQ7 := Lib.hid hq7
                refine ⟨_, rfl, H7.out.row0, ?_⟩
                change wpAnyH _ _ _ _ _ _ _ (Act.put _ (some 99) _) _
                simp only [Act.put, List.setIfInBounds_toArray, List.set_cons_zero, List.set_cons_succ]
                refine wpAnyH_take (i := 7) (v := (.tuple #[.agg (sa q7 s0), .int .i64 0])) rfl (by kernel_rfl) (by kernel_rfl) (by kernel_rfl) (fun _ _ _ h => h) (yv (by rfl) (fun _ => by first | rfl | go_simp)) (H7.out.row0) ?_
                change wpAnyH _ _ _ _ _ _ _ (Act.put _ (some 92) _) _
                simp only [Act.put, List.setIfInBounds_toArray, List.set_cons_zero, List.set_cons_succ]
                refine wpAnyH_take (i := 8) (v := (.agg (sa q7 s0))) rfl (by kernel_rfl) (by kernel_rfl) (by kernel_rfl) (fun _ _ _ h => h) (yv (by rfl) (fun _ => by first | rfl | go_simp)) (H7.out.row0) ?_
                change wpAnyH _ _ _ _ _ _ _ (Act.put _ (some 100) _) _
                simp only [Act.put, List.setIfInBounds_toArray, List.set_cons_zero, List.set_cons_succ]
                refine wpAnyH_take (i := 9) (v := .int .i64 0) rfl (by kernel_rfl) (by kernel_rfl) (by kernel_rfl) (fun _ _ _ h => h) (yv (by rfl) (fun _ => by first | rfl | go_simp)) (H7.out.row0) ?_
                change wpAnyH _ _ _ _ _ _ _ (Act.put _ (some 101) _) _
                simp only [Act.put, List.setIfInBounds_toArray, List.set_cons_zero, List.set_cons_succ]
                refine wpAnyH_one (i := 11) (by kernel_rfl) ?_
                refine do_store rfl (by rfl) rfl 46 _ _ rfl B5 (sa q7 s0) zS rfl rfl 46 hr5_8 (z46 (sa_size q7 s0)) rfl (sa_one q7 s0) ⟨(setRow_other _ _ _ _ (by have := HFG.out.len; simp only [List.length_cons, List.length_nil] at this; omega)).trans H7.out.row0, ?_⟩
                refine wpAnyH_take (i := 12) (v := .int .i64 0) rfl (by kernel_rfl) (by kernel_rfl) (by kernel_rfl) (fun _ _ _ h => h) (yv (by rfl) (fun _ => by first | rfl | go_simp)) ((setRow_other _ _ _ _ (by have := HFG.out.len; simp only [List.length_cons, List.length_nil] at this; omega)).trans H7.out.row0) ?_
                change wpAnyH _ _ _ _ _ _ _ (Act.put _ (some 17) _) _
                simp only [Act.put, List.setIfInBounds_toArray, List.set_cons_zero, List.set_cons_succ]
                refine wpAnyH_done (by kernel_rfl) ?_ _
                (try go_wp2_with fail)
                go_meet
                exact ⟨B5, q7, rfl, rfl, Fs.new HFG.out HRG2.out hb7 hle5 HQ7.out (.inl (Array.getElem?_eq_some_iff.1 hr5_6).1) (OnlyX.row _ _ _ rfl) (below_setRow (hb7) hle5 _) (setRow_heap _ _ _ _ _ _ hr5_8)⟩
            · refine do_allocS rfl (by rfl) rfl ⟨(H2.out.later ((Below.refl _ _).alloc (Nat.le_refl _) _)).row0, ?_⟩
              change wpAnyH _ _ _ _ _ _ _ (Act.put _ (some 16) _) _
              simp only [Act.put, List.setIfInBounds_toArray, List.set_cons_zero, List.set_cons_succ]
              obtain ⟨B5, hB5⟩ : ∃ B, (wr.drew).heap.size = B := ⟨_, rfl⟩
              obtain ⟨W5, hW5⟩ : ∃ W, (wr.drew).alloc (.cells zS 46) = W := ⟨_, rfl⟩
              have hr5 : W5.heap[B5]? = some (.cells zS 46 (0, 0)) := by rw [← hW5, ← hB5]; exact heap_alloc_new _ _
              have hb5w : Below wr.heap.size wr W5 := by rw [← hW5]; exact (Below.drew (Below.refl wr.heap.size wr)).alloc (Below.drew (Below.refl wr.heap.size wr)).size _
              have hx5w : Below (wr.drew).heap.size (wr.drew) W5 := by rw [← hW5]; exact (Below.refl _ _).alloc (Nat.le_refl _) _
              have hle5 : wr.heap.size ≤ B5 := by rw [← hB5]; exact (Below.drew (Below.refl wr.heap.size wr)).size
              have hH5 := Lib.hid (H2.out.later hx5w)
              rw [hW5]
              try rw [hB5]
              clear hW5
              refine wpAnyH_one (i := 4) (by kernel_rfl) ?_
              refine do_call (n := 61) (al := [.agg (xa z G), .int .i64 (j : Int)]) rfl (by rfl) _ _ rfl (by rfl) ent61 ?_
              (with_reducible refine (HSZ2.out _ (hb5w)).mono ?_)
              rintro e v5 ⟨rfl, hb5, hb5'⟩
              have H4 := Lib.hid (hH5.out.later (hb5'))
              have hr5_5 := (hb5'.block _ (Array.getElem?_eq_some_iff.1 hr5).1).trans hr5
              refine ⟨_, rfl, H4.out.row0, ?_⟩
              change wpAnyH _ _ _ _ _ _ _ (Act.put _ (some 97) _) _
              simp only [Act.put, List.setIfInBounds_toArray, List.set_cons_zero, List.set_cons_succ]
              refine wpAnyH_one (i := 5) (by kernel_rfl) ?_
              refine do_call (n := 60) (al := [.int .i64 (N : Int)]) rfl (by rfl) _ _ rfl (by rfl) ent60 ?_
              (with_reducible refine (HSP.out _ (hb5)).mono ?_)
              rintro e v6 ⟨A6, c6, rfl, hc61, hc62, hr6, hb6, hb6'⟩
              have H6 := Lib.hid (H4.out.later (hb6'))
              have hr5_7 := (hb6'.block _ (Array.getElem?_eq_some_iff.1 hr5_5).1).trans hr5_5
              refine ⟨_, rfl, H6.out.row0, ?_⟩
              change wpAnyH _ _ _ _ _ _ _ (Act.put _ (some 98) _) _
              simp only [Act.put, List.setIfInBounds_toArray, List.set_cons_zero, List.set_cons_succ]
              refine wpAnyH_one (i := 6) (by kernel_rfl) ?_
              refine do_call (n := 59) (al := [.agg (xa z G), .int .i64 (a : Int), .int .i64 2, .slice A6 9 c6]) rfl (by rfl) _ _ rfl (by rfl) ent59 ?_
              (with_reducible refine (HOP.out v6 hb6 _ (Below.refl _ _) A6 c6 hr6 hc61 hc62).mono ?_)
              rintro e v7 ⟨q7, rfl, hq7, hb7, hb7'⟩
              have H8 := Lib.hid (H6.out.later (hb7'))
              have hr5_9 := (hb7'.block _ (Array.getElem?_eq_some_iff.1 hr5_7).1).trans hr5_7
              have HQ7 := Lib.hid hq7
              refine ⟨_, rfl, H8.out.row0, ?_⟩
              change wpAnyH _ _ _ _ _ _ _ (Act.put _ (some 99) _) _
              simp only [Act.put, List.setIfInBounds_toArray, List.set_cons_zero, List.set_cons_succ]
              refine wpAnyH_take (i := 7) (v := (.tuple #[.agg (sa q7 s0), .int .i64 0])) rfl (by kernel_rfl) (by kernel_rfl) (by kernel_rfl) (fun _ _ _ h => h) (yv (by rfl) (fun _ => by first | rfl | go_simp)) (H8.out.row0) ?_
              change wpAnyH _ _ _ _ _ _ _ (Act.put _ (some 92) _) _
              simp only [Act.put, List.setIfInBounds_toArray, List.set_cons_zero, List.set_cons_succ]
              refine wpAnyH_take (i := 8) (v := (.agg (sa q7 s0))) rfl (by kernel_rfl) (by kernel_rfl) (by kernel_rfl) (fun _ _ _ h => h) (yv (by rfl) (fun _ => by first | rfl | go_simp)) (H8.out.row0) ?_
              change wpAnyH _ _ _ _ _ _ _ (Act.put _ (some 100) _) _
              simp only [Act.put, List.setIfInBounds_toArray, List.set_cons_zero, List.set_cons_succ]
              refine wpAnyH_take (i := 9) (v := .int .i64 0) rfl (by kernel_rfl) (by kernel_rfl) (by kernel_rfl) (fun _ _ _ h => h) (yv (by rfl) (fun _ => by first | rfl | go_simp)) (H8.out.row0) ?_
              change wpAnyH _ _ _ _ _ _ _ (Act.put _ (some 101) _) _
              simp only [Act.put, List.setIfInBounds_toArray, List.set_cons_zero, List.set_cons_succ]
              refine wpAnyH_one (i := 11) (by kernel_rfl) ?_
              refine do_store rfl (by rfl) rfl 46 _ _ rfl B5 (sa q7 s0) zS rfl rfl 46 hr5_9 (z46 (sa_size q7 s0)) rfl (sa_one q7 s0) ⟨(setRow_other _ _ _ _ (by have := HFG.out.len; simp only [List.length_cons, List.length_nil] at this; omega)).trans H8.out.row0, ?_⟩
              refine wpAnyH_take (i := 12) (v := .int .i64 0) rfl (by kernel_rfl) (by kernel_rfl) (by kernel_rfl) (fun _ _ _ h => h) (yv (by rfl) (fun _ => by first | rfl | go_simp)) ((setRow_other _ _ _ _ (by have := HFG.out.len; simp only [List.length_cons, List.length_nil] at this; omega)).trans H8.out.row0) ?_
              change wpAnyH _ _ _ _ _ _ _ (Act.put _ (some 17) _) _
              simp only [Act.put, List.setIfInBounds_toArray, List.set_cons_zero, List.set_cons_succ]
              refine wpAnyH_done (by kernel_rfl) ?_ _
              (try go_wp2_with fail)
              go_meet
              exact ⟨B5, q7, rfl, rfl, Fs.new HFG.out HRG2.out hb7 hle5 HQ7.out (.inl (Array.getElem?_eq_some_iff.1 hr5_7).1) (OnlyX.row _ _ _ rfl) (below_setRow (hb7) hle5 _) (setRow_heap _ _ _ _ _ _ hr5_9)⟩
          case rest =>
            as_aux_lemma =>
              obtain ⟨B5, q, rfl, rfl, hF0⟩ := hcut
              have HF0 := Lib.hid hF0
              clear hF0
              have hst1 := set_r HF0.out.rv HS0.out (HF0.out.xlt HX.out) 3 (v)
              rw [HX3.out] at hst1
              obtain ⟨s1, hs1⟩ : ∃ s, setF s0 3 (v) = s := ⟨_, rfl⟩
              rw [hs1] at hst1 HX4 HX5
              rw [← sa_v] at hst1
              simp only [← sa_v] at hst1
              have HST1 := Lib.hid hst1
              have HS_s1 : Hid (StOk G s1) := by rw [← hs1]; exact setF_ok HS0.out (by unfold I64; omega)
              have HE_s1 := Lib.hid hs1
              clear hst1 hs1
              go_upto_region 21 with (fail)
              refine wp_region_list ?_
              refine ldw46 rfl _ rfl B5 rfl (sa q s0) HF0.out.row (sa_size q s0) ?_
              simp only [Act.put, List.setIfInBounds_toArray, List.set_cons_zero, List.set_cons_succ]
              refine wpList_value (v := .int .i64 v) rfl (by rfl) ?_
              simp only [Act.put, List.setIfInBounds_toArray, List.set_cons_zero, List.set_cons_succ]
              refine wpList_call9 (n := 73) (al := [.agg (sa q s0), .int .i64 3, .int .i64 (v)]) rfl _ _ rfl (by rfl) ent73 ?_
              (with_reducible refine (HST1.out).mono ?_)
              rintro e u1 ⟨q1, rfl, hv1, hb1⟩
              refine ⟨_, rfl, ?_⟩
              simp only [Act.put, List.setIfInBounds_toArray, List.set_cons_zero, List.set_cons_succ]
              refine wpList_value (v := (.tuple #[.agg (sa q1 s1), .int .i64 0])) rfl (by rfl) ?_
              simp only [Act.put, List.setIfInBounds_toArray, List.set_cons_zero, List.set_cons_succ]
              refine wpList_value (v := (.agg (sa q1 s1))) rfl (by rfl) ?_
              simp only [Act.put, List.setIfInBounds_toArray, List.set_cons_zero, List.set_cons_succ]
              refine wpList_value (v := .int .i64 0) rfl (by rfl) ?_
              simp only [Act.put, List.setIfInBounds_toArray, List.set_cons_zero, List.set_cons_succ]
              refine stw46 rfl _ _ rfl rfl B5 (sa q1 s1) rfl rfl _ (HF0.out.later hb1).row (sa_size q1 s1) (sa_size q s0) (sa_one q1 s1) ?_
              have HF1 := Lib.hid (HF0.out.putS hb1 hv1)
              obtain ⟨V1, hV1⟩ : ∃ V, u1.setRow B5 (sa q1 s1) = V := ⟨_, rfl⟩
              rw [hV1] at HF1
              try rw [hV1]
              clear hV1 hv1 hb1
              have hst2 := set_r HF1.out.rv HS_s1.out (HF1.out.xlt HX.out) 4 ((n : Int))
              rw [HX4.out] at hst2
              obtain ⟨s2, hs2⟩ : ∃ s, setF s1 4 ((n : Int)) = s := ⟨_, rfl⟩
              rw [hs2] at hst2 HX5
              rw [← sa_v] at hst2
              simp only [← sa_v] at hst2
              have HST2 := Lib.hid hst2
              have HS_s2 : Hid (StOk G s2) := by rw [← hs2]; exact setF_ok HS_s1.out (by unfold I64; omega)
              have HE_s2 := Lib.hid hs2
              clear hst2 hs2
              go_upto_region 22 with (fail)
              refine wp_region_list ?_
              refine ldw46 rfl _ rfl B5 rfl (sa q1 s1) HF1.out.row (sa_size q1 s1) ?_
              simp only [Act.put, List.setIfInBounds_toArray, List.set_cons_zero, List.set_cons_succ]
              refine wpList_value (v := .slice A n c) rfl (by rfl) ?_
              simp only [Act.put, List.setIfInBounds_toArray, List.set_cons_zero, List.set_cons_succ]
              refine wpList_value (v := .int .i64 (n : Int)) rfl (by go_simp) ?_
              simp only [Act.put, List.setIfInBounds_toArray, List.set_cons_zero, List.set_cons_succ]
              refine wpList_call9 (n := 73) (al := [.agg (sa q1 s1), .int .i64 4, .int .i64 ((n : Int))]) rfl _ _ rfl (by rfl) ent73 ?_
              (with_reducible refine (HST2.out).mono ?_)
              rintro e u2 ⟨q2, rfl, hv2, hb2⟩
              refine ⟨_, rfl, ?_⟩
              simp only [Act.put, List.setIfInBounds_toArray, List.set_cons_zero, List.set_cons_succ]
              refine wpList_value (v := (.tuple #[.agg (sa q2 s2), .int .i64 0])) rfl (by rfl) ?_
              simp only [Act.put, List.setIfInBounds_toArray, List.set_cons_zero, List.set_cons_succ]
              refine wpList_value (v := (.agg (sa q2 s2))) rfl (by rfl) ?_
              simp only [Act.put, List.setIfInBounds_toArray, List.set_cons_zero, List.set_cons_succ]
              refine wpList_value (v := .int .i64 0) rfl (by rfl) ?_
              simp only [Act.put, List.setIfInBounds_toArray, List.set_cons_zero, List.set_cons_succ]
              refine stw46 rfl _ _ rfl rfl B5 (sa q2 s2) rfl rfl _ (HF1.out.later hb2).row (sa_size q2 s2) (sa_size q1 s1) (sa_one q2 s2) ?_
              have HF2 := Lib.hid (HF1.out.putS hb2 hv2)
              obtain ⟨V2, hV2⟩ : ∃ V, u2.setRow B5 (sa q2 s2) = V := ⟨_, rfl⟩
              rw [hV2] at HF2
              try rw [hV2]
              clear hV2 hv2 hb2
              obtain ⟨s3, hs3⟩ : ∃ s, setF s2 5 Cs = s := ⟨_, rfl⟩
              have HST5 : Hid (∀ W, Below V2.heap.size V2 W → Calls Try.prog 73 #[.agg (sa q2 s2), .int .i64 5, .int .i64 Cs] W fun e w' => ∃ q' : Qv, e = .returned (.tuple #[.agg (sa q' s3), .int .i64 0]) ∧ RvA (X5 X w.heap.size B5) w' q' s3 G.pg ∧ Below V2.heap.size V2 w' ∧ Below W.heap.size W w') := fun W hb => by
                have := set_r (HF2.out.later hb).rv HS_s2.out ((HF2.out.later hb).xlt HX.out) 5 Cs
                rw [HX5.out, hs3] at this
                exact this.mono (fun e w' ⟨q', h1, h2, h3⟩ => ⟨q', h1, h2, hb.trans (h3.mono hb.size), h3⟩)
              have HS3 : Hid (StOk G s3) := by rw [← hs3]; exact setF_ok HS_s2.out (by unfold I64; omega)
              have HSUM : Hid (∀ W, Below V2.heap.size V2 W → Calls Try.prog 11 #[.slice A n c] W fun e w' => e = .returned (.int .u32 Cs) ∧ Below V2.heap.size V2 w' ∧ Below W.heap.size W w') := fun W hb => by
                have hbw := HF2.out.fr.below.trans (hb.mono HF2.out.fr.below.size)
                have := rsum_any A n c img W ((HA.out.below hbw (Nat.le_refl _)).more hbw.size) HNN.out HB.out (by omega)
                rw [HCS.out] at this
                refine this.mono ?_
                rintro e w' ⟨h1, qd, rfl⟩
                exact ⟨h1, Below.drewN hb qd, Below.drewN (Below.refl _ _) qd⟩
              have HEQ : Hid (setN (openF G a 2 (fwSpec N)) 3 [v, (n : Int), Cs] = s3) := by
                rw [Hid, HSE.out, ← hs3, ← HE_s2.out, ← HE_s1.out]
                rfl
              have HSEQ : Hid (setN s0 3 [v, (n : Int), Cs] = s3) := by
                rw [Hid, ← hs3, ← HE_s2.out, ← HE_s1.out]
                rfl
              have HFLD : Hid (s3.broken = false ∧ s3.busy = false ∧ s3.seq = 0 ∧ s3.staged.length = 9) := by
                obtain ⟨b1, b2, b3, b4⟩ := HSF.out
                obtain ⟨c1, c2, c3, c4⟩ := setF_four s0 3 v
                obtain ⟨d1, d2, d3, d4⟩ := setF_four (setF s0 3 v) 4 (n : Int)
                obtain ⟨e1, e2, e3, e4⟩ := setF_four (setF (setF s0 3 v) 4 (n : Int)) 5 Cs
                rw [HE_s1.out, HE_s2.out, hs3] at e1 e2 e3 e4
                rw [HE_s1.out, HE_s2.out] at d1 d2 d3 d4
                rw [HE_s1.out] at c1 c2 c3 c4
                exact ⟨by rw [e1, d1, c1, b1], by rw [e2, d2, c2, b2], by rw [e3, d3, c3, b3], by rw [e4, d4, c4, b4]⟩
              clear hs3
              go_upto_region 23 with (fail)
              go_cut [] (fun wx => ∃ q3 : Qv, Fs X w wx z G B5 q3 s3)
              case first =>
                refine wp_region_held_drew (S := fun _ => True) (by kernel_rfl) trivial (fun _ => ?_)
                refine wpAnyH_take (i := 1) (v := .slice A n c) rfl (by kernel_rfl) (by kernel_rfl) (by kernel_rfl) (fun _ _ _ h => h) (yv (by rfl) (fun _ => by first | rfl | go_simp)) (trivial) ?_
                change wpAnyH _ _ _ _ _ _ _ (Act.put _ (some 117) _) _
                simp only [Act.put, List.setIfInBounds_toArray, List.set_cons_zero, List.set_cons_succ]
                refine wpAnyH_two (i := 0) (j := 2) (by kernel_rfl) ?_ ?_
                · refine do_row rfl (by rfl) 46 _ rfl B5 rfl 46 (sa q2 s2) _ (HF2.out.later (Below.drew (Below.refl _ _))).row Try.underlying46 rfl (z46 (sa_size q2 s2)) ⟨trivial, ?_⟩
                  change wpAnyH _ _ _ _ _ _ _ (Act.put _ (some 116) _) _
                  simp only [Act.put, List.setIfInBounds_toArray, List.set_cons_zero, List.set_cons_succ]
                  refine wpAnyH_one (i := 2) (by kernel_rfl) ?_
                  refine do_call (n := 11) (al := [.slice A n c]) rfl (by rfl) _ _ rfl (by rfl) ent11 ?_
                  (with_reducible refine (HSUM.out _ (Below.drew (Below.refl _ _))).mono ?_)
                  rintro e v7 ⟨rfl, hb7, hb7'⟩
                  have hr5_2 := (HF2.out.later hb7).row
                  refine ⟨_, rfl, trivial, ?_⟩
                  change wpAnyH _ _ _ _ _ _ _ (Act.put _ (some 118) _) _
                  simp only [Act.put, List.setIfInBounds_toArray, List.set_cons_zero, List.set_cons_succ]
                  refine wpAnyH_take (i := 3) (v := .int .i64 Cs) rfl (by kernel_rfl) (by kernel_rfl) (by kernel_rfl) (fun _ _ _ h => h) (yv (by rfl) (fun _ => by first | rfl | go_simp)) (trivial) ?_
                  change wpAnyH _ _ _ _ _ _ _ (Act.put _ (some 119) _) _
                  simp only [Act.put, List.setIfInBounds_toArray, List.set_cons_zero, List.set_cons_succ]
                  refine wpAnyH_one (i := 4) (by kernel_rfl) ?_
                  refine do_call (n := 73) (al := [.agg (sa q2 s2), .int .i64 5, .int .i64 Cs]) rfl (by rfl) _ _ rfl (by rfl) ent73 ?_
                  (with_reducible refine (HST5.out _ (hb7)).mono ?_)
                  rintro e v8 ⟨q3, rfl, hv3, hb8, hb8'⟩
                  have hr5_3 := (HF2.out.later hb8).row
                  refine ⟨_, rfl, trivial, ?_⟩
                  change wpAnyH _ _ _ _ _ _ _ (Act.put _ (some 120) _) _
                  simp only [Act.put, List.setIfInBounds_toArray, List.set_cons_zero, List.set_cons_succ]
                  refine wpAnyH_take (i := 5) (v := (.tuple #[.agg (sa q3 s3), .int .i64 0])) rfl (by kernel_rfl) (by kernel_rfl) (by kernel_rfl) (fun _ _ _ h => h) (yv (by rfl) (fun _ => by first | rfl | go_simp)) (trivial) ?_
                  change wpAnyH _ _ _ _ _ _ _ (Act.put _ (some 115) _) _
                  simp only [Act.put, List.setIfInBounds_toArray, List.set_cons_zero, List.set_cons_succ]
                  refine wpAnyH_take (i := 6) (v := (.agg (sa q3 s3))) rfl (by kernel_rfl) (by kernel_rfl) (by kernel_rfl) (fun _ _ _ h => h) (yv (by rfl) (fun _ => by first | rfl | go_simp)) (trivial) ?_
                  change wpAnyH _ _ _ _ _ _ _ (Act.put _ (some 121) _) _
                  simp only [Act.put, List.setIfInBounds_toArray, List.set_cons_zero, List.set_cons_succ]
                  refine wpAnyH_take (i := 7) (v := .int .i64 0) rfl (by kernel_rfl) (by kernel_rfl) (by kernel_rfl) (fun _ _ _ h => h) (yv (by rfl) (fun _ => by first | rfl | go_simp)) (trivial) ?_
                  change wpAnyH _ _ _ _ _ _ _ (Act.put _ (some 122) _) _
                  simp only [Act.put, List.setIfInBounds_toArray, List.set_cons_zero, List.set_cons_succ]
                  refine wpAnyH_one (i := 8) (by kernel_rfl) ?_
                  refine do_store rfl (by rfl) rfl 46 _ _ rfl B5 (sa q3 s3) (sa q2 s2) rfl rfl 46 hr5_3 (z46 (sa_size q3 s3)) rfl (sa_one q3 s3) ⟨trivial, ?_⟩
                  refine wpAnyH_done (by kernel_rfl) ?_ _
                  (try go_wp2_with fail)
                  go_meet
                  exact ⟨q3, HF2.out.putS hb8 hv3⟩
                · refine do_call (n := 11) (al := [.slice A n c]) rfl (by rfl) _ _ rfl (by rfl) ent11 ?_
                  (with_reducible refine (HSUM.out _ (Below.drew (Below.refl _ _))).mono ?_)
                  rintro e v7 ⟨rfl, hb7, hb7'⟩
                  have hr5_2 := (HF2.out.later hb7).row
                  refine ⟨_, rfl, trivial, ?_⟩
                  change wpAnyH _ _ _ _ _ _ _ (Act.put _ (some 118) _) _
                  simp only [Act.put, List.setIfInBounds_toArray, List.set_cons_zero, List.set_cons_succ]
                  refine wpAnyH_take (i := 3) (v := .int .i64 Cs) rfl (by kernel_rfl) (by kernel_rfl) (by kernel_rfl) (fun _ _ _ h => h) (yv (by rfl) (fun _ => by first | rfl | go_simp)) (trivial) ?_
                  change wpAnyH _ _ _ _ _ _ _ (Act.put _ (some 119) _) _
                  simp only [Act.put, List.setIfInBounds_toArray, List.set_cons_zero, List.set_cons_succ]
                  refine wpAnyH_one (i := 0) (by kernel_rfl) ?_
                  refine do_row rfl (by rfl) 46 _ rfl B5 rfl 46 (sa q2 s2) _ hr5_2 Try.underlying46 rfl (z46 (sa_size q2 s2)) ⟨trivial, ?_⟩
                  change wpAnyH _ _ _ _ _ _ _ (Act.put _ (some 116) _) _
                  simp only [Act.put, List.setIfInBounds_toArray, List.set_cons_zero, List.set_cons_succ]
                  refine wpAnyH_one (i := 4) (by kernel_rfl) ?_
                  refine do_call (n := 73) (al := [.agg (sa q2 s2), .int .i64 5, .int .i64 Cs]) rfl (by rfl) _ _ rfl (by rfl) ent73 ?_
                  (with_reducible refine (HST5.out _ (hb7)).mono ?_)
                  rintro e v8 ⟨q3, rfl, hv3, hb8, hb8'⟩
                  have hr5_3 := (HF2.out.later hb8).row
                  refine ⟨_, rfl, trivial, ?_⟩
                  change wpAnyH _ _ _ _ _ _ _ (Act.put _ (some 120) _) _
                  simp only [Act.put, List.setIfInBounds_toArray, List.set_cons_zero, List.set_cons_succ]
                  refine wpAnyH_take (i := 5) (v := (.tuple #[.agg (sa q3 s3), .int .i64 0])) rfl (by kernel_rfl) (by kernel_rfl) (by kernel_rfl) (fun _ _ _ h => h) (yv (by rfl) (fun _ => by first | rfl | go_simp)) (trivial) ?_
                  change wpAnyH _ _ _ _ _ _ _ (Act.put _ (some 115) _) _
                  simp only [Act.put, List.setIfInBounds_toArray, List.set_cons_zero, List.set_cons_succ]
                  refine wpAnyH_take (i := 6) (v := (.agg (sa q3 s3))) rfl (by kernel_rfl) (by kernel_rfl) (by kernel_rfl) (fun _ _ _ h => h) (yv (by rfl) (fun _ => by first | rfl | go_simp)) (trivial) ?_
                  change wpAnyH _ _ _ _ _ _ _ (Act.put _ (some 121) _) _
                  simp only [Act.put, List.setIfInBounds_toArray, List.set_cons_zero, List.set_cons_succ]
                  refine wpAnyH_take (i := 7) (v := .int .i64 0) rfl (by kernel_rfl) (by kernel_rfl) (by kernel_rfl) (fun _ _ _ h => h) (yv (by rfl) (fun _ => by first | rfl | go_simp)) (trivial) ?_
                  change wpAnyH _ _ _ _ _ _ _ (Act.put _ (some 122) _) _
                  simp only [Act.put, List.setIfInBounds_toArray, List.set_cons_zero, List.set_cons_succ]
                  refine wpAnyH_one (i := 8) (by kernel_rfl) ?_
                  refine do_store rfl (by rfl) rfl 46 _ _ rfl B5 (sa q3 s3) (sa q2 s2) rfl rfl 46 hr5_3 (z46 (sa_size q3 s3)) rfl (sa_one q3 s3) ⟨trivial, ?_⟩
                  refine wpAnyH_done (by kernel_rfl) ?_ _
                  (try go_wp2_with fail)
                  go_meet
                  exact ⟨q3, HF2.out.putS hb8 hv3⟩
              case rest =>
                as_aux_lemma =>
                  obtain ⟨q3, hF3⟩ := hcut
                  have HF3 := Lib.hid hF3
                  have hcmt := commit_r HF3.out.rv HF3.out.ra HS3.out (HF3.out.xlt HX.out) (by rw [HFLD.out.1, HGU.out.dn]) (fun _ => by rw [HFLD.out.2.2.1, HFLD.out.2.2.2]; rfl)
                  have hx6 := HX6.out
                  rw [HSEQ.out] at hx6
                  rw [hx6] at hcmt
                  obtain ⟨t, ht⟩ : ∃ t, commitS s3 G = t := ⟨_, rfl⟩
                  rw [ht] at hcmt
                  simp only [← sa_v, ← xa_v] at hcmt
                  have HCM := Lib.hid hcmt
                  have HT := Lib.hid ht
                  clear hF3 hcmt hx6 ht
                  go_upto_region 24 with (fail)
                  refine wp_region_list ?_
                  refine ldw46 rfl _ rfl B5 rfl (sa q3 s3) HF3.out.row (sa_size q3 s3) ?_
                  refine ld37 rfl _ rfl w.heap.size rfl (xa z G) HF3.out.fr.row0 (HXA.out z G) ?_
                  simp only [Act.put, List.setIfInBounds_toArray, List.set_cons_zero, List.set_cons_succ]
                  refine wpList_call9 (n := 74) (al := [.agg (sa q3 s3), .agg (xa z G)]) rfl _ _ rfl (by rfl) ent74 ?_
                  (with_reducible refine (HCM.out).mono ?_)
                  rintro e v9 ⟨q4, y4, rfl, hv4, hr4, hb4⟩
                  refine ⟨_, rfl, ?_⟩
                  simp only [Act.put, List.setIfInBounds_toArray, List.set_cons_zero, List.set_cons_succ]
                  refine wpList_value (v := (.tuple #[.agg (sa q4 t.1), .agg (xa y4 t.2.1), .int .i64 0])) rfl (by rfl) ?_
                  simp only [Act.put, List.setIfInBounds_toArray, List.set_cons_zero, List.set_cons_succ]
                  refine wpList_value (v := (.agg (sa q4 t.1))) rfl (by rfl) ?_
                  simp only [Act.put, List.setIfInBounds_toArray, List.set_cons_zero, List.set_cons_succ]
                  refine wpList_value (v := (.agg (xa y4 t.2.1))) rfl (by rfl) ?_
                  simp only [Act.put, List.setIfInBounds_toArray, List.set_cons_zero, List.set_cons_succ]
                  refine wpList_value (v := .int .i64 0) rfl (by rfl) ?_
                  simp only [Act.put, List.setIfInBounds_toArray, List.set_cons_zero, List.set_cons_succ]
                  refine st37 rfl _ _ rfl rfl w.heap.size (xa y4 t.2.1) rfl rfl _ (HF3.out.later hb4).fr.row0 (HXA.out y4 t.2.1) (HXA.out z G) (HXO.out y4 t.2.1) ?_
                  have HFF := Lib.hid ((HF3.out.later hb4).fr.put0 (xa y4 t.2.1))
                  have HRF := Lib.hid (hr4.onlyX (OnlyX.row v9 w.heap.size (xa y4 t.2.1) (.inl (xf0 X _))))
                  obtain ⟨V9, hV9⟩ : ∃ V, v9.setRow w.heap.size (xa y4 t.2.1) = V := ⟨_, rfl⟩
                  rw [hV9] at HFF HRF
                  try rw [hV9]
                  clear hV9 hv4 hr4 hb4
                  go_upto_region 25 with (fail)
                  refine wp_region_list ?_
                  refine ld37 rfl _ rfl w.heap.size rfl (xa y4 t.2.1) HFF.out.row0 (HXA.out y4 t.2.1) ?_
                  simp only [Act.put, List.setIfInBounds_toArray, List.set_cons_zero, List.set_cons_succ]
                  refine wpList_value (v := .int .i64 0) rfl (by rfl) ?_
                  simp only [Act.put, List.setIfInBounds_toArray, List.set_cons_zero, List.set_cons_succ]
                  refine st37 rfl _ _ rfl rfl (w.heap.size + 1) (xa y4 t.2.1) rfl rfl _ HFF.out.row1 (HXA.out y4 t.2.1) rfl (HXO.out y4 t.2.1) ?_
                  have HFE := Lib.hid (HFF.out.put1 (xa y4 t.2.1))
                  have HRE := Lib.hid (HRF.out.onlyX (OnlyX.row V9 (w.heap.size + 1) (xa y4 t.2.1) (.inl (xf1 X _))))
                  go_wp2
                  (try simp only [Exit.inBlock, Exit.then])
                  refine bodyPost_ret (v := .tuple #[.agg (xa y4 t.2.1), .int .i64 0]) (results_row_tmp (p := 10) (u := 11) rfl _ _ (w.heap.size + 1) 37 (xa y4 t.2.1) (0, 0) _ rfl HFE.out.row1 Try.underlying37 rfl (z37 (HXA.out y4 t.2.1))) rfl ?_
                  rw [HEQ.out, HT.out]
                  exact ⟨y4, rfl, HRE.out.weak (fun b hb => .inl (.inl hb)), HFE.out.below⟩
end Go.Proofs.Ytjdknddnanopaaa

/-
  A new flash holds no bank. No program in sight.
-/
namespace Go.Proofs.Ytjdknddnanopaaa
open Go.RowKit
set_option linter.unusedVariables false
set_option linter.unusedSimpArgs false

theorem newF_page {b p x : Nat} (hx : x < b * p) : pageF (newF b p) x = blankP := by
  unfold pageF newF blankP
  simp only
  rw [List.drop_replicate, List.take_replicate]
  congr 1
  have : x * 64 + 64 ≤ b * p * 64 := by
    have : (x + 1) * 64 ≤ b * p * 64 := Nat.mul_le_mul_right _ hx
    omega
  omega
theorem fwOpenE_new {b p : Nat} (hb : b ≤ 64) (hb1 : 1 ≤ b) (hp : p ≤ 16) (hp1 : 1 ≤ p) {first blocks : Int} (hE : regE (newF b p) first blocks = 0) : fwOpenE (newF b p) first blocks = 12 := by
  have hok : (newF b p).ok := newF_ok hb1 hb hp1 hp
  obtain ⟨hd, a, k, hfa, hbl, k1, k8, hw, hp2⟩ := regE_zero hE
  have hsz := sizeF_le hok k8
  have hop := reg_open hE (sizeF (newF b p) (2 * k + 2))
  rw [hfa] at hop
  have hwl : (newF b p).wear.length = b := by unfold newF; simp
  have hpg : (newF b p).pg = p := rfl
  obtain ⟨-, -, hsv, -⟩ := Surv.firstR hok (fi := a) (bl := 2) (fun x h1 h2 => newF_page (by
    rw [hpg] at h2
    rw [hwl] at hw
    have : (a + 2) * p ≤ b * p := Nat.mul_le_mul_right _ (by omega)
    omega)) (fwSpec_ok (n := sizeF (newF b p) (2 * k + 2)) (by omega)) hop
  unfold fwOpenE
  rw [if_neg (by rw [hE]; decide), hfa, hbl]
  exact if_pos (by
    simp only [Int.toNat_natCast]
    rw [hsv]
    rfl)
end Go.Proofs.Ytjdknddnanopaaa

/-
  The statement about Format and Open: what the walk keeps in memory.
-/
namespace Go.Proofs.Ytjdknddnanopaaa
open Go.RowKit
set_option linter.unusedVariables false
set_option linter.unusedSimpArgs false

/-- The flash's own blocks, and the box of the reference's. -/
def XL (L : Lc) (B b : Nat) : Prop := b = L.d ∨ b = L.gi ∨ b = L.gw ∨ b = B
/-- The program's flash f, the reference's g in its box, the law's region. -/
structure Fw (w w0 wr : World) (L : Lc) (B11 : Nat) (y : Rc) (f g : Fl) (v1 v2 v3 v4 : Value) : Prop where
  base : Below w.heap.size w w0
  fl : FlAt w0 wr L f
  pk : f.picks = []
  box : four wr w.heap.size v1 v2 v3 v4
  bx : w.heap.size < w0.heap.size
  rf : six wr B11 (.slice y.A g.img.length y.c) (.int .i64 g.pg) (.slice y.B g.wear.length y.d) (.bool g.down) (.int .i64 g.fuse) (.slice y.P g.picks.length y.r)
  ra : RAt (XL L B11) wr y g
  big : w0.heap.size ≤ B11
  ne : B11 ≠ L.d ∧ B11 ≠ L.gi ∧ B11 ≠ L.gw
section
variable {w w0 wr w' V : World} {L : Lc} {B11 : Nat} {y z : Rc} {f f' g g' : Fl} {v1 v2 v3 v4 : Value}
theorem Fw.later (h : Fw w w0 wr L B11 y f g v1 v2 v3 v4) (hb : Below wr.heap.size wr w') : Fw w w0 w' L B11 y f g v1 v2 v3 v4 :=
  ⟨h.base, h.fl.later hb, h.pk, h.box.below hb h.box.lt, h.bx, h.rf.below hb h.rf.lt, h.ra.below hb, h.big, h.ne⟩
theorem Fw.below (h : Fw w w0 wr L B11 y f g v1 v2 v3 v4) : Below w.heap.size w wr := h.base.trans (h.fl.below.mono h.base.size)
theorem Fw.xlt (h : Fw w w0 wr L B11 y f g v1 v2 v3 v4) : ∀ b, XL L B11 b → b < wr.heap.size := fun b hb => by
  rcases hb with rfl | rfl | rfl | rfl
  · exact h.fl.ld
  · exact h.fl.bi.2
  · exact h.fl.bw.2
  · exact h.rf.lt
/-- The program's flash has turned. -/
theorem Fw.prog (h : Fw w w0 wr L B11 y f g v1 v2 v3 v4) (hF : FlAt w0 w' L f') (hp : f'.picks = []) (ho : Only L wr w') : Fw w w0 w' L B11 y f' g v1 v2 v3 v4 := by
  have hd := h.fl.bd
  have hi := h.fl.bi.1
  have hw := h.fl.bw.1
  have hbx := h.bx
  obtain ⟨n1, n2, n3⟩ := h.ne
  have e := ho.block w.heap.size h.box.lt (by omega) (by omega) (by omega)
  have e2 := ho.block B11 h.rf.lt n1 n2 n3
  obtain ⟨x0, x1, x2, x3, x4⟩ := h.box
  obtain ⟨z0, z1, z2, z3, z4, z5, z6⟩ := h.rf
  exact ⟨h.base, hF, hp, ⟨(cell_of_block e).trans x0, (cell_of_block e).trans x1, (cell_of_block e).trans x2, (cell_of_block e).trans x3, fun j => (frozen_of_block e).trans (x4 j)⟩, h.bx,
    ⟨(cell_of_block e2).trans z0, (cell_of_block e2).trans z1, (cell_of_block e2).trans z2, (cell_of_block e2).trans z3, (cell_of_block e2).trans z4, (cell_of_block e2).trans z5, fun j => (frozen_of_block e2).trans (z6 j)⟩,
    h.ra.only ⟨.inl rfl, .inr (.inl rfl), .inr (.inr (.inl rfl))⟩ ho, h.big, h.ne⟩
theorem OnlyX.put6 (w : World) (B : Nat) (a b c d e f : Value) : OnlyX (fun x => x = B) w (put6 w B a b c d e f) := by
  have hs : ∀ (W : World) (j : Nat) (v : Value), OnlyX (fun x => x = B) W (W.setCell ⟨B, j, none⟩ v) := fun W j v => OnlyX.set (X := fun x => x = B) W ⟨B, j, none⟩ v (show B = B from rfl)
  have h0 := hs w 0 a
  have h1 := h0.trans (hs _ 1 b)
  have h2 := h1.trans (hs _ 2 c)
  have h3 := h2.trans (hs _ 3 d)
  have h4 := h3.trans (hs _ 4 e)
  exact h4.trans (hs _ 5 f)
/-- The reference's flash has turned. -/
theorem Fw.ref (h : Fw w w0 wr L B11 y f g v1 v2 v3 v4) (hb : Below wr.heap.size wr w') (hr : RAt (XL L B11) w' z g') (hV : put6 w' B11 (.slice z.A g'.img.length z.c) (.int .i64 g'.pg) (.slice z.B g'.wear.length z.d) (.bool g'.down) (.int .i64 g'.fuse) (.slice z.P g'.picks.length z.r) = V) : Fw w w0 V L B11 z f g' v1 v2 v3 v4 := by
  subst hV
  have h1 := h.later hb
  obtain ⟨n1, n2, n3⟩ := h.ne
  have hbx := h.bx
  have hbg := h.big
  have ho := OnlyX.put6 w' B11 (.slice z.A g'.img.length z.c) (.int .i64 g'.pg) (.slice z.B g'.wear.length z.d) (.bool g'.down) (.int .i64 g'.fuse) (.slice z.P g'.picks.length z.r)
  have e := ho.block w.heap.size h1.box.lt (by omega)
  obtain ⟨x0, x1, x2, x3, x4⟩ := h1.box
  refine ⟨h.base, ?_, h.pk, ⟨(cell_of_block e).trans x0, (cell_of_block e).trans x1, (cell_of_block e).trans x2, (cell_of_block e).trans x3, fun j => (frozen_of_block e).trans (x4 j)⟩, h.bx, h1.rf.put _ _ _ _ _ _, hr.put6 (.inr (.inr (.inr rfl))) _ _ _ _ _ _, h.big, h.ne⟩
  have hfl := h1.fl
  exact hfl.aside (below_put6 hfl.below hbg _ _ _ _ _ _) ho (Ne.symm n1) (Ne.symm n2) (Ne.symm n3) (fun j => frozen_of_block (ho.block L.d hfl.ld (Ne.symm n1))) (own_of_block hfl.oi (ho.block L.gi hfl.bi.2 (Ne.symm n2))) (own_of_block hfl.ow (ho.block L.gw hfl.bw.2 (Ne.symm n3))) (by rw [h.pk]; intro hx; exact absurd rfl hx)
end
end Go.Proofs.Ytjdknddnanopaaa

/-
  The statement about Format and Open: the calls, beside each other.
-/
namespace Go.Proofs.Ytjdknddnanopaaa
open Go.RowKit
set_option linter.unusedVariables false
set_option linter.unusedSimpArgs false

/-- The flash behind Format. -/
def fmtW (f : Fl) (first blocks v : Int) (img : List Int) : Fl := if fmtE f first blocks v img.length = 0 then (fmtC f first.toNat blocks.toNat v (sumZ img) img).2.1 else f
theorem fmtE_no {f : Fl} {first blocks v n : Int} (h : regE f first blocks = 0) (hv : ¬ (1 ≤ v ∧ v ≤ 1073741824) ∨ ¬ (1 ≤ n ∧ n ≤ (sizeF f blocks.toNat : Nat))) : fmtE f first blocks v n = 3 := by
  unfold fmtE
  rw [if_neg (by rw [h]; decide), if_pos hv]
theorem fmtE_bad {f : Fl} {first blocks v n : Int} (h : regE f first blocks ≠ 0) : fmtE f first blocks v n = regE f first blocks := by
  unfold fmtE
  rw [if_pos h]


section
variable {w w0 wr : World} {L : Lc} {B11 : Nat} {y : Rc} {f g : Fl} {v1 v2 v3 v4 : Value}
theorem Fw.openP (h : Fw w w0 wr L B11 y f g v1 v2 v3 v4) (first blocks : Int) (hf1 : I64 first) (hb1 : I64 blocks) :
    Calls Try.prog 15 #[.pointer (some ⟨L.d, 0, none⟩), .int .i64 first, .int .i64 blocks] wr fun e w' => ∃ p, e = .returned (.tuple #[.pointer p, errV (fwOpenE f first blocks)]) ∧ (fwOpenE f first blocks ≠ 0 → p = none) ∧ (fwOpenE f first blocks = 0 → ∃ b, p = some ⟨b, 0, none⟩) ∧ Fw w w0 w' L B11 y f g v1 v2 v3 v4 := by
  have hp := h.pk
  by_cases hE : regE f first blocks = 0
  · by_cases hz : fwOpenE f first blocks = 0
    · refine (fopen_yes h.fl first blocks hE hz (by rw [hp]; exact RdX.nil)).mono ?_
      rintro e w' ⟨S, K, rfl, _, hb, _⟩
      exact ⟨_, by rw [hz, errV_zero], fun e => absurd hz e, fun _ => ⟨_, rfl⟩, h.later hb⟩
    · refine (fopen_no2 h.fl first blocks hE hz (by rw [hp]; exact RdX.nil)).mono ?_
      rintro e w' ⟨rfl, hb⟩
      exact ⟨_, rfl, fun _ => rfl, fun e => absurd e hz, h.later hb⟩
  · refine (fopen_no1 h.fl first blocks hf1 hb1 hE).mono ?_
    rintro e w' ⟨rfl, rfl⟩
    have : fwOpenE f first blocks ≠ 0 := by unfold fwOpenE; rw [if_pos hE]; exact hE
    exact ⟨_, rfl, fun _ => rfl, fun e => absurd e this, h⟩
theorem Fw.openR (h : Fw w w0 wr L B11 y f g v1 v2 v3 v4) (first blocks : Int) (hf1 : I64 first) (hb1 : I64 blocks) :
    Calls Try.prog 16 #[.agg #[.slice y.A g.img.length y.c, .int .i64 g.pg, .slice y.B g.wear.length y.d, .bool g.down, .int .i64 g.fuse, .slice y.P g.picks.length y.r], .int .i64 first, .int .i64 blocks] wr fun e w' => ∃ v, e = .returned (.tuple #[v, .int .i64 (fwOpenE g first blocks)]) ∧ (fwOpenE g first blocks ≠ 0 → v = .agg zeroB) ∧ Fw w w0 w' L B11 y f g v1 v2 v3 v4 := by
  refine (ropen16 h.ra h.xlt first blocks hf1 hb1).mono ?_
  rintro e w' ⟨v, he, hb, hz, _⟩
  exact ⟨v, he, hz, h.later hb⟩
theorem Fw.fmtP (h : Fw w w0 wr L B11 y f g v1 v2 v3 v4) (hu : f.up) (first blocks v : Int) (hf1 : I64 first) (hb1 : I64 blocks) (A : Option Addr) (n c : Nat) (img : List Int) (hA : Rd w w.heap.size A (kcells .u8 img)) (hn : img.length = n) (hnc : n ≤ c) (hcm : c ≤ maxLen) (hb : Bytes img) :
    Calls Try.prog 18 #[.pointer (some ⟨L.d, 0, none⟩), .int .i64 first, .int .i64 blocks, .int .i64 v, .slice A n c] wr fun e w' => e = .returned (errV (fmtE f first blocks v n)) ∧ Fw w w0 w' L B11 y (fmtW f first blocks v img) g v1 v2 v3 v4 := by
  subst hn
  by_cases hE : regE f first blocks = 0
  · by_cases hv : ¬ (1 ≤ v ∧ v ≤ 1073741824) ∨ ¬ (1 ≤ (img.length : Int) ∧ (img.length : Int) ≤ (sizeF f blocks.toNat : Nat))
    · refine (fmt_no2 h.fl first blocks v hf1 hb1 A img.length c hE (by omega)).mono ?_
      rintro e w' ⟨rfl, rfl⟩
      refine ⟨rfl, ?_⟩
      unfold fmtW
      rw [if_neg (by rw [fmtE_no hE hv]; decide)]
      exact h
    · obtain ⟨-, a, k, hfa, hbl, k1, k8, hw, hp2⟩ := regE_zero hE
      have hbn : blocks.toNat = 2 * k + 2 := by omega
      rw [hbn] at hv
      have hz : fmtE f first blocks v img.length = 0 := by
        unfold fmtE
        rw [if_neg (by rw [hE]; decide), hbn, if_neg hv]
      have hs0 := h.base.size
      have hba := h.below
      have hd := h.fl.bd
      have hi := h.fl.bi.1
      have hw2 := h.fl.bw.1
      have hap : Apart L wr A (kcells .u8 img) := fun hx => by
        obtain ⟨b, off, e, hlt, hc⟩ := (hA.below hba (Nat.le_refl _)) hx
        have := hba.size
        exact ⟨b, off, e, by omega, by omega, by omega, by omega, hc⟩
      have hv2 : (1 ≤ v ∧ v ≤ 1073741824) ∧ 1 ≤ img.length ∧ img.length ≤ sizeF f (2 * k + 2) := by omega
      have hpl := planted hu k1 k8 hw hp2 hb hv2.2.1 hv2.2.2 hv2.1
      refine (fmt_yes h.fl hu h.pk a k k1 k8 hw hp2 v hv2.1 A img.length c img hap rfl hnc hcm hb hv2.2.1 hv2.2.2 first blocks hfa hbl).mono ?_
      rintro e w' ⟨rfl, hF, hO⟩
      refine ⟨by rw [hz, errV_zero], ?_⟩
      have hW : fmtW f first blocks v img = (fmtC f a (2 * k + 2) v (sumZ img) img).2.1 := by
        unfold fmtW
        rw [if_pos hz, hbn, hfa]
        rfl
      rw [hW]
      exact h.prog hF (by rw [hpl.2.2]; exact h.pk) hO
  · refine (fmt_no1 h.fl first blocks v hf1 hb1 A img.length c hE).mono ?_
    rintro e w' ⟨rfl, rfl⟩
    refine ⟨rfl, ?_⟩
    unfold fmtW
    rw [if_neg (by rw [fmtE_bad hE]; exact hE)]
    exact h
theorem Fw.fmtR (h : Fw w w0 wr L B11 y f g v1 v2 v3 v4) (hu : g.up) (first blocks v : Int) (hf1 : I64 first) (hb1 : I64 blocks) (A : Option Addr) (n c : Nat) (img : List Int) (hA : Rd w w.heap.size A (kcells .u8 img)) (hn : img.length = n) (hnc : n ≤ c) (hcm : c ≤ maxLen) (hb : Bytes img) :
    Calls Try.prog 19 #[.agg #[.slice y.A g.img.length y.c, .int .i64 g.pg, .slice y.B g.wear.length y.d, .bool g.down, .int .i64 g.fuse, .slice y.P g.picks.length y.r], .int .i64 first, .int .i64 blocks, .int .i64 v, .slice A n c] wr
      (RFM (XL L B11) wr (fmtW g first blocks v img) (fmtE g first blocks v n)) := by
  subst hn
  by_cases hE : regE g first blocks = 0
  · by_cases hv : ¬ (1 ≤ v ∧ v ≤ 1073741824) ∨ ¬ (1 ≤ (img.length : Int) ∧ (img.length : Int) ≤ (sizeF g blocks.toNat : Nat))
    · have h3 := fmtE_no hE hv
      have hW : fmtW g first blocks v img = g := by
        unfold fmtW
        rw [if_neg (by rw [h3]; decide)]
      rw [h3, hW]
      exact rfmt_no2 h.ra h.xlt first blocks v A img.length c (Nat.le_trans hnc hcm) hE (by omega)
    · obtain ⟨-, a, k, hfa, hbl, k1, k8, hw, hp2⟩ := regE_zero hE
      have hbn : blocks.toNat = 2 * k + 2 := by omega
      rw [hbn] at hv
      have hz : fmtE g first blocks v img.length = 0 := by
        unfold fmtE
        rw [if_neg (by rw [hE]; decide), hbn, if_neg hv]
      have hba := h.below
      have hv2 : (1 ≤ v ∧ v ≤ 1073741824) ∧ 1 ≤ img.length ∧ img.length ≤ sizeF g (2 * k + 2) := by omega
      have hW : fmtW g first blocks v img = (fmtC g a (2 * k + 2) v (sumZ img) img).2.1 := by
        unfold fmtW
        rw [if_pos hz, hbn, hfa]
        rfl
      rw [hz, hW]
      exact rfmt_yes h.ra h.xlt hu a k k1 k8 hw hp2 v hv2.1 A img.length c img ((hA.below hba (Nat.le_refl _)).more hba.size) rfl hnc hcm hb hv2.2.1 hv2.2.2 first blocks hfa hbl
  · have hW : fmtW g first blocks v img = g := by
      unfold fmtW
      rw [if_neg (by rw [fmtE_bad hE]; exact hE)]
    rw [fmtE_bad hE, hW]
    exact rfmt_no1 h.ra h.xlt first blocks v hf1 hb1 A img.length c hE
end
/-- What the second Open finds. -/
theorem open_fmtW {b p : Nat} (h1 : 1 ≤ b) (h2 : b ≤ 64) (h3 : 1 ≤ p) (h4 : p ≤ 16) {first blocks v : Int} {img : List Int} (hi : Bytes img) :
    fwOpenE (newF b p) first blocks ≠ 0 := by
  intro h
  by_cases hE : regE (newF b p) first blocks = 0
  · rw [fwOpenE_new h2 h1 h4 h3 hE] at h
    cases h
  · unfold fwOpenE at h
    rw [if_pos hE] at h
    exact hE h
end Go.Proofs.Ytjdknddnanopaaa

/-
  The walk of the statement about Format and Open.
-/
namespace Go.Proofs.Ytjdknddnanopaaa
open Go.RowKit
set_option linter.unusedVariables false
set_option linter.unusedSimpArgs false

theorem store_zeroB (wx : World) : Sem.run Try.prog (storeCells ⟨wx.heap.size, 0, none⟩ zeroB.toList) (wx.alloc (.cells #[.int .i64 0, .int .i64 0, .int .i64 0, .int .i64 0, .slice none 0 0, .slice none 0 0, .slice none 0 0, .int .i64 0, .int .i64 0, .int .i64 0, .slice none 0 0, .slice none 0 0, .int .i64 0, .int .i64 0, .int .i64 0, .int .i64 0, .bool false, .int .i64 0, .bool false, .bool false, .int .i64 0, .int .i64 0, .int .i64 0, .int .i64 0, .slice none 0 0, .slice none 0 0] 48)) = .ok () (wx.alloc (.cells zeroB 48)) := run_storeCells_new wx 48 _ zeroB size48 rfl one26z
theorem Fw.new {w w0 w2 w3 V : World} {L : Lc} {y : Rc} {f : Fl} {v1 v2 v3 v4 : Value} (hb : Below w.heap.size w w0) (hbx : four w0 w.heap.size v1 v2 v3 v4) (hF : FlAt w0 w2 L f) (hp : f.picks = []) (hr : RAt (fun b => b = L.d ∨ b = L.gi ∨ b = L.gw) w3 y f) (h3 : Below w2.heap.size w2 w3)
    (hV : w3.alloc (.cells #[.slice y.A f.img.length y.c, .int .i64 f.pg, .slice y.B f.wear.length y.d, .bool f.down, .int .i64 f.fuse, .slice y.P f.picks.length y.r] 37) = V) : Fw w w0 V L w3.heap.size y f f v1 v2 v3 v4 := by
  have hd := hF.ld
  have hi := hF.bi.2
  have hw := hF.bw.2
  have hs := h3.size
  have hbs := hF.below.size
  have hlt := hbx.lt
  have hb4 : Below w3.heap.size w3 V := by rw [← hV]; exact (Below.refl _ _).alloc (Nat.le_refl _) _
  have hY : ∀ b, b < w3.heap.size → XL L w3.heap.size b → (b = L.d ∨ b = L.gi ∨ b = L.gw) := fun b hlt hx => by
    rcases hx with h | h | h | h
    · exact .inl h
    · exact .inr (.inl h)
    · exact .inr (.inr h)
    · omega
  have hra : RAt (XL L w3.heap.size) w3 y f := ⟨hr.ok, hr.a.newX hY, hr.a1, hr.a2, hr.b.newX hY, hr.b1, hr.b2, hr.p.newX hY, hr.p1, hr.p2⟩
  refine ⟨hb, (hF.later h3).later hb4, hp, ((hbx.below hF.below hlt).below h3 (by omega)).below hb4 (by omega), hlt, ?_, hra.below hb4, by omega, by omega, by omega, by omega⟩
  rw [← hV]
  exact six_new _ _ _ _ _ _ _ _ _ rfl

set_option maxRecDepth 100000 in
set_option maxHeartbeats 16000000 in
theorem formats_any (b p fi co v : Int) (hfi : I64 fi) (hco : I64 co) (hv : I64 v) (A : Option Addr) (n c : Nat) (img : List Int) (w : World) (hA : Rd w w.heap.size A (kcells .u8 img)) (hn : img.length = n) (hnc : n ≤ c) (hcm : c ≤ maxLen) (hbb : Bytes img) :
    Calls Try.prog 4 #[.agg #[.int .i64 b, .int .i64 p, .int .i64 fi, .int .i64 co], .int .i64 v, .slice A n c] w fun e w' => e = .returned (.bool true) ∧ Below w.heap.size w w' := by
  have g1 := ne_nil
  have g2 := ne_err
  have g3 := eq_nil
  have g4 := eq_err
  obtain ⟨B, hB⟩ : ∃ B : Nat, clipI b 1 10 = B := ⟨(clipI b 1 10).toNat, by unfold clipI; omega⟩
  obtain ⟨P, hP⟩ : ∃ P : Nat, clipI p 1 4 = P := ⟨(clipI p 1 4).toNat, by unfold clipI; omega⟩
  have hB12 : 1 ≤ B ∧ B ≤ 10 := by unfold clipI at hB; omega
  have hP12 : 1 ≤ P ∧ P ≤ 4 := by unfold clipI at hP; omega
  have HCB : Hid (∀ w, Calls Try.prog 12 #[.int .i64 b, .int .i64 1, .int .i64 10] w fun e w' => e = .returned (.int .i64 B) ∧ w' = w) := fun w => (clip_any b 1 10 w).mono fun e w' h => ⟨by rw [h.1, hB], h.2.symm⟩
  have HCP : Hid (∀ w, Calls Try.prog 12 #[.int .i64 p, .int .i64 1, .int .i64 4] w fun e w' => e = .returned (.int .i64 P) ∧ w' = w) := fun w => (clip_any p 1 4 w).mono fun e w' h => ⟨by rw [h.1, hP], h.2.symm⟩
  obtain ⟨V, hV⟩ : ∃ V, w.alloc (.cells #[.int .i64 b, .int .i64 p, .int .i64 fi, .int .i64 co] 28) = V := ⟨_, rfl⟩
  have HBV : Hid (Below w.heap.size w V) := by rw [← hV]; exact (Below.refl _ _).alloc (Nat.le_refl _) _
  have HCV : Hid (four V w.heap.size (.int .i64 b) (.int .i64 p) (.int .i64 fi) (.int .i64 co)) := by rw [← hV]; exact four_new _ _ _ _ _ _ _ rfl
  have HA := Lib.hid hA
  have HNN := Lib.hid hn
  have HBB := Lib.hid hbb
  have HCM := Lib.hid hcm
  unfold maxLen at hcm
  clear hA hn hbb hB hP
  by_cases hn3 : 3000 < n
  · go_enter Try.func4, Try.ntmps4
    go_wp2_with (fail)
    try rw [hV]
    clear hV
    (with_reducible refine (awake52_any V).mono ?_)
    rintro e w1 ⟨rfl, hb⟩
    have HB1 : Hid (Below w.heap.size w w1) := HBV.out.trans (hb.mono HBV.out.size)
    clear hb
    go_wp2_with (fail)
    (with_reducible refine (awake52_any _).mono ?_)
    rintro e w2 ⟨rfl, hb⟩
    have HB2 : Hid (Below w.heap.size w w2) := HB1.out.trans (hb.mono HB1.out.size)
    clear hb
    go_wp2
    go_ret
    exact ⟨rfl, HB2.out⟩
  go_enter Try.func4, Try.ntmps4
  go_wp2_with (fail)
  try rw [hV]
  clear hV
  (with_reducible refine (awake52_any V).mono ?_)
  rintro e w1 ⟨rfl, hb⟩
  have HB1 : Hid (Below w.heap.size w w1) := HBV.out.trans (hb.mono HBV.out.size)
  have HC1 := Lib.hid (HCV.out.below hb HCV.out.lt)
  clear hb
  obtain ⟨d0, d1, d2, d3, -⟩ := HC1.out
  go_wp2_with (fail)
  go_quiet (first
    | (go_at_call 12; with_reducible exact Calls.quiet_of_same (HCB.out _))
    | (go_at_call 12; with_reducible exact Calls.quiet_of_same (HCP.out _)))
  obtain ⟨W1, hW1⟩ : ∃ W, w1.drewN nq = W := ⟨_, rfl⟩
  have HBW : Hid (Below w.heap.size w W1) := by rw [← hW1]; exact Below.drewN HB1.out _
  have HCW : Hid (four W1 w.heap.size (.int .i64 b) (.int .i64 p) (.int .i64 fi) (.int .i64 co)) := by rw [← hW1]; exact HC1.out.below (Below.drewN (Below.refl _ _) _) HC1.out.lt
  rw [hW1]
  clear hW1 d0 d1 d2 d3
  go_wp2_with (fail)
  (with_reducible refine (new_okI (B : Int) (P : Int) B P rfl rfl W1 hB12.1 (by omega) hP12.1 (by omega)).mono ?_)
  rintro e w2 ⟨L, rfl, hF⟩
  have hU := new_up hB12.1 (show B ≤ 64 by omega) hP12.1 (show P ≤ 16 by omega)
  have HU := Lib.hid hU
  have HOE : Hid (fwOpenE (newF B P) fi co ≠ 0) := open_fmtW hB12.1 (by omega) hP12.1 (by omega) (v := v) HBB.out
  obtain ⟨e1, he1⟩ : ∃ x, fwOpenE (newF B P) fi co = x := ⟨_, rfl⟩
  have HE1 := Lib.hid he1
  rw [he1] at HOE
  have HF := Lib.hid hF
  clear hF hU he1
  go_wp2_with (fail)
  (with_reducible refine (newR_any (X := fun b => b = L.d ∨ b = L.gi ∨ b = L.gw) B P w2 (fun b hb => by rcases hb with rfl | rfl | rfl; exact HF.out.ld; exact HF.out.bi.2; exact HF.out.bw.2) hB12.1 (by omega) hP12.1 (by omega)).mono ?_)
  rintro e w3 ⟨y, rfl, hr, h3⟩
  have HNF : Hid (∀ V, w3.alloc (.cells #[.slice y.A (newF B P).img.length y.c, .int .i64 (newF B P).pg, .slice y.B (newF B P).wear.length y.d, .bool (newF B P).down, .int .i64 (newF B P).fuse, .slice y.P (newF B P).picks.length y.r] 37) = V → Fw w W1 V L w3.heap.size y (newF B P) (newF B P) (.int .i64 b) (.int .i64 p) (.int .i64 fi) (.int .i64 co)) := fun V hV => Fw.new HBW.out HCW.out HF.out rfl hr h3 hV
  obtain ⟨f, hf⟩ : ∃ f, newF B P = f := ⟨_, rfl⟩
  rw [hf] at HNF HU HE1 ⊢
  clear hf hr h3 HF HCW HBW
  simp only [Rc.v]
  obtain ⟨B11, hB11⟩ : ∃ n, w3.heap.size = n := ⟨_, rfl⟩
  rw [hB11] at HNF
  go_upto_region 6 with (fail)
  obtain ⟨V1, hV1⟩ : ∃ V, w3.alloc (.cells #[.slice y.A f.img.length y.c, .int .i64 f.pg, .slice y.B f.wear.length y.d, .bool f.down, .int .i64 f.fuse, .slice y.P f.picks.length y.r] 37) = V := ⟨_, rfl⟩
  have H1 := Lib.hid (HNF.out V1 hV1)
  rw [hV1]
  clear hV1 hB11
  obtain ⟨d0, d1, d2, d3, -⟩ := H1.out.box
  go_wp2_with (fail)
  clear d0 d1 d2 d3
  (with_reducible refine (H1.out.openP fi co hfi hco).mono ?_)
  rintro e w4 ⟨pp, rfl, hp1, -, h2⟩
  rw [HE1.out] at hp1 ⊢
  obtain rfl := hp1 HOE.out
  have H2 := Lib.hid h2
  clear h2 hp1
  obtain ⟨d0, d1, d2, d3, -⟩ := H2.out.box
  obtain ⟨a0, a1, a2, a3, a4, a5, -⟩ := H2.out.rf
  go_wp2_with (fail)
  clear d0 d1 d2 d3 a0 a1 a2 a3 a4 a5
  (with_reducible refine (H2.out.openR fi co hfi hco).mono ?_)
  rintro e w5 ⟨vb, rfl, hvb, h3⟩
  rw [HE1.out] at hvb ⊢
  obtain rfl := hvb HOE.out
  have H3 := Lib.hid h3
  clear h3 hvb
  have hst := store_zeroB
  go_upto_region 10 with (fail)
  clear hst
  obtain ⟨V2, hV2⟩ : ∃ V, w5.alloc (.cells zeroB 48) = V := ⟨_, rfl⟩
  have H4 : Hid (Fw w W1 V2 L B11 y f f (.int .i64 b) (.int .i64 p) (.int .i64 fi) (.int .i64 co)) := by
    rw [← hV2]
    exact H3.out.later ((Below.refl _ _).alloc (Nat.le_refl _) _)
  rw [hV2]
  clear hV2
  have hnn : (binOp .neq 40 (.pointer none) (.pointer none)).run Try.prog V2 = .ok (.bool false) V2 := by kernel_rfl
  go_wp2_with (fail)
  (with_reducible refine (num_any e1 V2).mono ?_)
  rintro e w6 ⟨rfl, rfl⟩
  obtain ⟨d0, d1, d2, d3, -⟩ := H4.out.box
  go_wp2_with (fail)
  clear d0 d1 d2 d3 hnn
  (with_reducible refine (H4.out.fmtP HU.out fi co v hfi hco A n c img HA.out HNN.out hnc HCM.out HBB.out).mono ?_)
  rintro e w7 ⟨rfl, h5⟩
  have H5 := Lib.hid h5
  clear h5
  obtain ⟨f2, hf2⟩ : ∃ x, fmtW f fi co v img = x := ⟨_, rfl⟩
  obtain ⟨ef, hef⟩ : ∃ x, fmtE f fi co v n = x := ⟨_, rfl⟩
  have HFR := Lib.hid (H5.out.fmtR HU.out fi co v hfi hco A n c img HA.out HNN.out hnc HCM.out HBB.out)
  rw [hf2] at H5 HFR
  rw [hef] at HFR ⊢
  clear hf2 hef
  obtain ⟨d0, d1, d2, d3, -⟩ := H5.out.box
  obtain ⟨a0, a1, a2, a3, a4, a5, -⟩ := H5.out.rf
  go_wp2_with (fail)
  clear d0 d1 d2 d3 a0 a1 a2 a3 a4 a5
  (with_reducible refine HFR.out.mono ?_)
  rintro e w8 ⟨z, rfl, hr8, hb8⟩
  obtain ⟨V3, hV3⟩ : ∃ V, put6 w8 B11 (.slice z.A f2.img.length z.c) (.int .i64 f2.pg) (.slice z.B f2.wear.length z.d) (.bool f2.down) (.int .i64 f2.fuse) (.slice z.P f2.picks.length z.r) = V := ⟨_, rfl⟩
  have H6 := Lib.hid (H5.out.ref hb8 hr8 hV3)
  obtain ⟨a0, a1, a2, a3, a4, a5, af⟩ := (H5.out.later hb8).rf
  have e0 := af 0
  have e1' := af 1
  have e2 := af 2
  have e3 := af 3
  have e4 := af 4
  have e5 := af 5
  clear af hb8 hr8
  unfold put6 at hV3
  go_upto_region 14 with (fail)
  try rw [hV3]
  clear hV3 a0 a1 a2 a3 a4 a5 e0 e1' e2 e3 e4 e5
  obtain ⟨N, hN⟩ : ∃ n, f2.img.length = n := ⟨_, rfl⟩
  obtain ⟨M, hM⟩ : ∃ n, f2.wear.length = n := ⟨_, rfl⟩
  have HIW : Hid (∀ W', Below V3.heap.size V3 W' → Calls Try.prog 20 #[.pointer (some ⟨L.d, 0, none⟩)] W' fun e w' => ∃ A c, e = .returned (.slice A N c) ∧ (convert 22 9 (.slice A N c)).run Try.prog w' = .ok (.string (strOfNums f2.img)) w' ∧ Below V3.heap.size V3 w') := fun W' hb' => by
    refine (image_any (H6.out.later hb').fl).mono ?_
    rintro e w' ⟨v', rfl, ho, hb⟩
    obtain ⟨A', c', rfl, h1, h2, hr⟩ := own_read ho
    rw [hN]
    exact ⟨A', c', rfl, str_of hr hN, hb'.trans (hb.mono hb'.size)⟩
  have HWW : Hid (∀ W', Below V3.heap.size V3 W' → Calls Try.prog 22 #[.pointer (some ⟨L.d, 0, none⟩)] W' fun e w' => ∃ A c, e = .returned (.slice A M c) ∧ Rd w' w'.heap.size A (icells f2.wear) ∧ Below V3.heap.size V3 w') := fun W' hb' => by
    refine (wear_any (H6.out.later hb').fl).mono ?_
    rintro e w' ⟨v', rfl, ho, hb⟩
    obtain ⟨A', c', rfl, h1, h2, hr⟩ := own_read ho
    rw [hM]
    exact ⟨A', c', rfl, hr, hb'.trans (hb.mono hb'.size)⟩
  have hM2 : M ≤ maxLen := by
    have := H6.out.fl.ok.b2
    unfold maxLen
    omega
  have HIN : Hid (∀ W', Below V3.heap.size V3 W' → ∀ A c, Rd W' W'.heap.size A (icells f2.wear) → Calls Try.prog 21 #[.slice A M c, .slice z.B M z.d] W' fun e w' => e = .returned (.bool true) ∧ Below V3.heap.size V3 w') := fun W' hb' A c hr => by
    refine (ints_any A z.B M M c z.d f2.wear f2.wear W' hr (H6.out.later hb').ra.b.rd hM hM hM2 hM2).mono ?_
    rintro e w' ⟨rfl, q, rfl⟩
    exact ⟨by rw [decide_eq_true rfl], Below.drewN hb' q⟩
  have HSS : Hid (∀ W', Below V3.heap.size V3 W' → (W'.cell? ⟨B11, 0, none⟩ = some (.slice z.A N z.c) ∧ W'.cell? ⟨B11, 2, none⟩ = some (.slice z.B M z.d) ∧ (convert 22 9 (.slice z.A N z.c)).run Try.prog W' = .ok (.string (strOfNums f2.img)) W')) := fun W' hb' => by
    have h := H6.out.later hb'
    obtain ⟨x0, x1, x2, -⟩ := h.rf
    rw [hN] at x0
    rw [hM] at x2
    exact ⟨x0, x2, str_of h.ra.a.rd hN⟩
  have k0 := HSS.out V3.drew (Below.drew (Below.refl _ _))
  clear hN hM hM2
  go_cut [110] (fun v wx => v = .bool false ∧ Below V3.heap.size V3 wx)
  case first =>
    go_region_held (fun w' => w'.cell? ⟨B11, 0, none⟩ = some (.slice z.A N z.c) ∧ w'.cell? ⟨B11, 2, none⟩ = some (.slice z.B M z.d) ∧ (convert 22 9 (.slice z.A N z.c)).run Try.prog w' = .ok (.string (strOfNums f2.img)) w') (first | exact k0 | exact k9 | exact k8 | exact k7) (first
      | (go_at_call 17; with_reducible refine (num_any _ _).mono ?_; rintro e w9 ⟨rfl, rfl⟩)
      | (go_at_call 20; with_reducible refine (HIW.out _ (Below.drew (Below.refl _ _))).mono ?_; rintro e w9 ⟨A9, c9, rfl, t9, hb9⟩; have k9 := HSS.out w9 hb9)
      | (go_at_call 22; with_reducible refine (HWW.out _ hb9).mono ?_; rintro e wa ⟨Aa, ca, rfl, hra, hba⟩; have k8 := HSS.out wa hba)
      | (go_at_call 21; with_reducible refine (HIN.out _ hba Aa ca hra).mono ?_; rintro e wb ⟨rfl, hbb⟩; have k7 := HSS.out wb hbb))
    all_goals
      (try go_wp2_with fail)
      go_meet
      exact ⟨rfl, hbb⟩
  case rest =>
    obtain ⟨rfl, hb9⟩ := hcut
    have H7 := Lib.hid (H6.out.later hb9)
    clear hb9 k0
    obtain ⟨d0, d1, d2, d3, -⟩ := H7.out.box
    go_wp2_with (fail)
    clear d0 d1 d2 d3
    (with_reducible refine (H7.out.openP fi co hfi hco).mono ?_)
    rintro e wc ⟨pp, rfl, hp1, hp2, h8⟩
    have H8 := Lib.hid h8
    clear h8
    obtain ⟨d0, d1, d2, d3, -⟩ := H8.out.box
    obtain ⟨a0, a1, a2, a3, a4, a5, -⟩ := H8.out.rf
    go_wp2_with (fail)
    clear d0 d1 d2 d3 a0 a1 a2 a3 a4 a5
    (with_reducible refine (H8.out.openR fi co hfi hco).mono ?_)
    rintro e wd ⟨vd, rfl, -, h9⟩
    have H9 : Hid (Below w.heap.size w wd) := h9.below
    clear h9
    obtain ⟨ed, hed⟩ : ∃ x, fwOpenE f2 fi co = x := ⟨_, rfl⟩
    rw [hed] at hp1 hp2 ⊢
    clear hed
    go_wp2_with (fail)
    (with_reducible refine (num_any ed wd).mono ?_)
    rintro e we ⟨rfl, rfl⟩
    by_cases hz : ed = 0
    · obtain ⟨bd, rfl⟩ := hp2 hz
      subst hz
      have hnn : (binOp .neq 40 (.pointer (some ⟨bd, 0, none⟩)) (.pointer none)).run Try.prog wd = .ok (.bool true) wd := by kernel_rfl
      clear hp1 hp2
      go_wp2
      go_ret
      exact ⟨rfl, H9.out⟩
    · obtain rfl := hp1 hz
      have hnn : (binOp .neq 40 (.pointer none) (.pointer none)).run Try.prog wd = .ok (.bool false) wd := by kernel_rfl
      have hzz : (ed == 0) = false := by simpa using hz
      clear hp1 hp2
      go_wp2
      go_ret
      exact ⟨rfl, H9.out⟩
end Go.Proofs.Ytjdknddnanopaaa
