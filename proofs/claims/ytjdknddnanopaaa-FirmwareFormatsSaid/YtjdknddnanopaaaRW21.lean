
/-
  The reference's flash: Program.
-/
import Derived.Test.YtjdknddnanopaaaRW20
namespace Go.Proofs.Ytjdknddnanopaaa
open Go.RowKit
set_option linter.unusedVariables false

theorem RAt.setCell {X : Nat → Prop} {w : World} {x : Rc} {g : Fl} (h : RAt X w x g) (p : Addr) (u : Value) (hp : X p.block) : RAt X (w.setCell p u) x g :=
  ⟨h.ok, h.a.setCell p u hp, h.a1, h.a2, h.b.setCell p u hp, h.b1, h.b2, h.p.setCell p u hp, h.p1, h.p2⟩
theorem RAt.weak {X Y : Nat → Prop} {w : World} {x : Rc} {g : Fl} (h : RAt X w x g) (hX : ∀ b, Y b → X b) : RAt Y w x g :=
  ⟨h.ok, h.a.weak hX, h.a1, h.a2, h.b.weak hX, h.b1, h.b2, h.p.weak hX, h.p1, h.p2⟩
theorem RAt.two {X : Nat → Prop} {w : World} {x : Rc} {g : Fl} (h : RAt X w x g) : RAt (X2 X w.heap.size) w x g :=
  ⟨h.ok, h.a.two, h.a1, h.a2, h.b.two, h.b1, h.b2, h.p.two, h.p1, h.p2⟩
theorem RAt.cut {X : Nat → Prop} {w : World} {x : Rc} {g : Fl} (h : RAt X w x g) : RAt X w x (cutF g).1 := by
  obtain ⟨e1, e2, e3, e4⟩ := cutF_same g
  obtain ⟨g1, g2⟩ := cutF_fuse h.ok.fu1 h.ok.fu2
  refine ⟨⟨by rw [e1]; exact h.ok.p1, by rw [e1]; exact h.ok.p2, by rw [e3]; exact h.ok.b1, by rw [e3]; exact h.ok.b2, by rw [e1, e2, e3]; exact h.ok.len, by rw [e2]; exact h.ok.byt, by rw [e4]; exact h.ok.pby, g1, g2⟩, by rw [e2]; exact h.a, by rw [e2]; exact h.a1, h.a2, by rw [e3]; exact h.b, by rw [e3]; exact h.b1, h.b2, by rw [e4]; exact h.p, by rw [e4]; exact h.p1, h.p2⟩
/-- The slices of a cut flash stand as they stood. -/
theorem cut_v (A : Option Addr) (c : Nat) (B : Option Addr) (d : Nat) (P : Option Addr) (r : Nat) (g : Fl) :
    (Rc.mk A c B d P r).v (cutF g).1 = .agg #[.slice A g.img.length c, .int .i64 g.pg, .slice B g.wear.length d, .bool (cutF g).1.down, .int .i64 (cutF g).1.fuse, .slice P g.picks.length r] := by
  obtain ⟨e1, e2, e3, e4⟩ := cutF_same g
  unfold Rc.v
  rw [e1, e2, e3, e4]
theorem atF_codes (f : Fl) (p : Int) : atF f p = 20 ∨ atF f p = 10 ∨ atF f p = 0 := by
  unfold atF
  split
  · exact .inl rfl
  · split
    · exact .inr (.inl rfl)
    · exact .inr (.inr rfl)

def put6 (w : World) (B : Nat) (a b c d e f : Value) : World := (((((w.setCell ⟨B, 0, none⟩ a).setCell ⟨B, 1, none⟩ b).setCell ⟨B, 2, none⟩ c).setCell ⟨B, 3, none⟩ d).setCell ⟨B, 4, none⟩ e).setCell ⟨B, 5, none⟩ f
theorem put6_size (w : World) (B : Nat) (a b c d e f : Value) : (put6 w B a b c d e f).heap.size = w.heap.size := by simp [put6, World.setCell]
theorem set_far (w : World) (p q : Addr) (u : Value) (h : p ≠ q) : (w.setCell p u).cell? q = w.cell? q := World.cell?_setCell_other _ _ _ _ h
theorem six.set0 {w : World} {B : Nat} {a b c d e f : Value} (h : six w B a b c d e f) (u : Value) : six (w.setCell ⟨B, 0, none⟩ u) B u b c d e f :=
  ⟨World.cell?_setCell_same _ _ _ h.1, (set_far _ _ _ _ (by simp)).trans h.2.1, (set_far _ _ _ _ (by simp)).trans h.2.2.1, (set_far _ _ _ _ (by simp)).trans h.2.2.2.1, (set_far _ _ _ _ (by simp)).trans h.2.2.2.2.1, (set_far _ _ _ _ (by simp)).trans h.2.2.2.2.2.1, fun j => by rw [World.frozen?_setCell]; exact h.2.2.2.2.2.2 j⟩
theorem six.set1 {w : World} {B : Nat} {a b c d e f : Value} (h : six w B a b c d e f) (u : Value) : six (w.setCell ⟨B, 1, none⟩ u) B a u c d e f :=
  ⟨(set_far _ _ _ _ (by simp)).trans h.1, World.cell?_setCell_same _ _ _ h.2.1, (set_far _ _ _ _ (by simp)).trans h.2.2.1, (set_far _ _ _ _ (by simp)).trans h.2.2.2.1, (set_far _ _ _ _ (by simp)).trans h.2.2.2.2.1, (set_far _ _ _ _ (by simp)).trans h.2.2.2.2.2.1, fun j => by rw [World.frozen?_setCell]; exact h.2.2.2.2.2.2 j⟩
theorem six.set2 {w : World} {B : Nat} {a b c d e f : Value} (h : six w B a b c d e f) (u : Value) : six (w.setCell ⟨B, 2, none⟩ u) B a b u d e f :=
  ⟨(set_far _ _ _ _ (by simp)).trans h.1, (set_far _ _ _ _ (by simp)).trans h.2.1, World.cell?_setCell_same _ _ _ h.2.2.1, (set_far _ _ _ _ (by simp)).trans h.2.2.2.1, (set_far _ _ _ _ (by simp)).trans h.2.2.2.2.1, (set_far _ _ _ _ (by simp)).trans h.2.2.2.2.2.1, fun j => by rw [World.frozen?_setCell]; exact h.2.2.2.2.2.2 j⟩
theorem six.set3 {w : World} {B : Nat} {a b c d e f : Value} (h : six w B a b c d e f) (u : Value) : six (w.setCell ⟨B, 3, none⟩ u) B a b c u e f :=
  ⟨(set_far _ _ _ _ (by simp)).trans h.1, (set_far _ _ _ _ (by simp)).trans h.2.1, (set_far _ _ _ _ (by simp)).trans h.2.2.1, World.cell?_setCell_same _ _ _ h.2.2.2.1, (set_far _ _ _ _ (by simp)).trans h.2.2.2.2.1, (set_far _ _ _ _ (by simp)).trans h.2.2.2.2.2.1, fun j => by rw [World.frozen?_setCell]; exact h.2.2.2.2.2.2 j⟩
theorem six.set4 {w : World} {B : Nat} {a b c d e f : Value} (h : six w B a b c d e f) (u : Value) : six (w.setCell ⟨B, 4, none⟩ u) B a b c d u f :=
  ⟨(set_far _ _ _ _ (by simp)).trans h.1, (set_far _ _ _ _ (by simp)).trans h.2.1, (set_far _ _ _ _ (by simp)).trans h.2.2.1, (set_far _ _ _ _ (by simp)).trans h.2.2.2.1, World.cell?_setCell_same _ _ _ h.2.2.2.2.1, (set_far _ _ _ _ (by simp)).trans h.2.2.2.2.2.1, fun j => by rw [World.frozen?_setCell]; exact h.2.2.2.2.2.2 j⟩
theorem six.set5 {w : World} {B : Nat} {a b c d e f : Value} (h : six w B a b c d e f) (u : Value) : six (w.setCell ⟨B, 5, none⟩ u) B a b c d e u :=
  ⟨(set_far _ _ _ _ (by simp)).trans h.1, (set_far _ _ _ _ (by simp)).trans h.2.1, (set_far _ _ _ _ (by simp)).trans h.2.2.1, (set_far _ _ _ _ (by simp)).trans h.2.2.2.1, (set_far _ _ _ _ (by simp)).trans h.2.2.2.2.1, World.cell?_setCell_same _ _ _ h.2.2.2.2.2.1, fun j => by rw [World.frozen?_setCell]; exact h.2.2.2.2.2.2 j⟩
theorem six.put {w : World} {B : Nat} {a b c d e f : Value} (h : six w B a b c d e f) (a' b' c' d' e' f' : Value) : six (put6 w B a' b' c' d' e' f') B a' b' c' d' e' f' :=
  (((((h.set0 a').set1 b').set2 c').set3 d').set4 e').set5 f'
theorem six.away {w : World} {B : Nat} {a b c d e f : Value} (h : six w B a b c d e f) (p : Addr) (u : Value) (hp : p.block ≠ B) : six (w.setCell p u) B a b c d e f := by
  have k : ∀ j, (w.setCell p u).cell? ⟨B, j, none⟩ = w.cell? ⟨B, j, none⟩ := fun j => set_far _ _ _ _ (by intro e; exact hp (by rw [e]))
  exact ⟨(k 0).trans h.1, (k 1).trans h.2.1, (k 2).trans h.2.2.1, (k 3).trans h.2.2.2.1, (k 4).trans h.2.2.2.2.1, (k 5).trans h.2.2.2.2.2.1, fun j => by rw [World.frozen?_setCell]; exact h.2.2.2.2.2.2 j⟩
theorem six.far {w : World} {B C : Nat} {a b c d e f : Value} (h : six w B a b c d e f) (hC : C ≠ B) (a' b' c' d' e' f' : Value) : six (put6 w C a' b' c' d' e' f') B a b c d e f :=
  (((((h.away _ _ hC).away _ _ hC).away _ _ hC).away _ _ hC).away _ _ hC).away _ _ hC
theorem RAt.put6 {X : Nat → Prop} {w : World} {x : Rc} {g : Fl} (h : RAt X w x g) {C : Nat} (hC : X C) (a' b' c' d' e' f' : Value) : RAt X (put6 w C a' b' c' d' e' f') x g :=
  (((((h.setCell _ _ hC).setCell _ _ hC).setCell _ _ hC).setCell _ _ hC).setCell _ _ hC).setCell _ _ hC
theorem below_put6 {N : Nat} {w0 w : World} (h : Below N w0 w) {C : Nat} (hC : N ≤ C) (a' b' c' d' e' f' : Value) : Below N w0 (put6 w C a' b' c' d' e' f') :=
  (((((h.setCell (p := ⟨C, 0, none⟩) hC _).setCell (p := ⟨C, 1, none⟩) hC _).setCell (p := ⟨C, 2, none⟩) hC _).setCell (p := ⟨C, 3, none⟩) hC _).setCell (p := ⟨C, 4, none⟩) hC _).setCell (p := ⟨C, 5, none⟩) hC _

set_option maxRecDepth 100000 in
set_option maxHeartbeats 8000000 in
theorem progR_any {X : Nat → Prop} {w : World} {x : Rc} {g : Fl} (h : RAt X w x g) (hX : ∀ b, X b → b < w.heap.size) (page : Int) (Q : Option Addr) (m q : Nat) (b : List Int) (hQ : Rd w w.heap.size Q (kcells .u8 b)) (hm : b.length = m) (hmq : m ≤ q) (hqm : q ≤ maxLen) (hb : Bytes b) :
    Calls Try.prog 70 #[x.v g, .int .i64 page, .slice Q m q] w fun e w' => ∃ y : Rc, e = .returned (.tuple #[y.v (progF g page b).1, .int .i64 (progF g page b).2]) ∧ RAt X w' y (progF g page b).1 ∧ Below w.heap.size w w' := by
  have H := Lib.hid h
  have HX := Lib.hid hX
  have HQ := Lib.hid hQ
  have HM := Lib.hid hm
  have HBB := Lib.hid hb
  unfold maxLen at hqm
  obtain ⟨A, c, B, d, P, r⟩ := x
  show Calls Try.prog 70 #[.agg #[.slice A g.img.length c, .int .i64 g.pg, .slice B g.wear.length d, .bool g.down, .int .i64 g.fuse, .slice P g.picks.length r], _, _] w _
  obtain ⟨V, hV⟩ : ∃ V, (w.alloc (.cells #[.slice A g.img.length c, .int .i64 g.pg, .slice B g.wear.length d, .bool g.down, .int .i64 g.fuse, .slice P g.picks.length r] 37)).alloc (.cells #[.slice none 0 0, .int .i64 0, .slice none 0 0, .bool false, .int .i64 0, .slice none 0 0] 37) = V := ⟨_, rfl⟩
  have HBV : Hid (Below w.heap.size w V) := by rw [← hV]; exact below_two _ _ _
  have h6 := two_six w (.slice A g.img.length c) (.int .i64 g.pg) (.slice B g.wear.length d) (.bool g.down) (.int .i64 g.fuse) (.slice P g.picks.length r) (.slice none 0 0) (.int .i64 0) (.slice none 0 0) (.bool false) (.int .i64 0) (.slice none 0 0) 37 37
  rw [hV] at h6
  have H6 := Lib.hid h6
  have hgV : w.heap.size + 1 < V.heap.size := h6.2.lt
  have hRV : ∀ b, X b → b < V.heap.size := fun b hb => by have := hX b hb; omega
  have HRD := Lib.hid (readR_any (h.below HBV.out) hRV page)
  clear hRV
  unfold progF
  by_cases h0 : atF g page ≠ 0
  · rw [if_pos h0]
    have hr : readF g page = ([], atF g page) := by unfold readF; rw [if_pos h0]
    rw [hr] at HRD
    have hk : (atF g page != 0) = true := by simpa using h0
    generalize atF g page = k at *
    obtain ⟨a0, a1, a2, a3, a4, a5, _⟩ := h6.1
    clear h hX hQ hm hb h6 hr h0
    go_enter Try.func70, Try.ntmps70
    go_wp2_with (fail)
    try rw [hV]
    clear hV a0 a1 a2 a3 a4 a5
    (with_reducible refine HRD.out.mono ?_)
    rintro e w2 ⟨A2, n2, c2, rfl, hn2, hc21, hc22, hr2, hb2⟩
    have HB2 : Hid (Below w.heap.size w w2) := HBV.out.trans (hb2.mono HBV.out.size)
    have H61 := Lib.hid (H6.out.1.below hb2 (by omega))
    have H62 := Lib.hid (H6.out.2.below hb2 (by omega))
    clear hn2 hr2 hb2
    simp only
    obtain ⟨a0, a1, a2, a3, a4, a5, a6⟩ := H61.out
    obtain ⟨b0, b1, b2, b3, b4, b5, b6⟩ := H62.out
    have e0 := b6 0
    have e1 := b6 1
    have e2 := b6 2
    have e3 := b6 3
    have e4 := b6 4
    have e5 := b6 5
    clear a6 b6
    go_wp2
    (try simp only [Exit.inBlock, Exit.then])
    refine bodyPost_ret (v := .tuple #[(Rc.mk A c B d P r).v g, .int .i64 k]) ?_ rfl ⟨⟨A, c, B, d, P, r⟩, rfl, RAt.weak (X := X2 X w.heap.size) ?_ (fun _ => .inl), ?_⟩
    · rw [results_cell_tmp rfl]
      simp only [Rc.v]
      go_simp
    · (repeat (refine RAt.setCell ?_ _ _ (by first | exact x2_zero _ _ | exact x2_one _ _)))
      exact H.out.two.below HB2.out
    · (repeat (refine Below.setCell ?_ (by simp only; omega) _))
      exact HB2.out

  rw [if_neg h0]
  have h0' : atF g page = 0 := by omega
  obtain ⟨hd, hp0, hp1⟩ := atF_zero h0'
  obtain ⟨p, rfl⟩ : ∃ p : Nat, page = (p : Int) := ⟨page.toNat, by omega⟩
  simp only [Int.toNat_natCast]
  have hr : readF g (p : Int) = (pageF g p, 0) := by unfold readF; rw [if_neg h0]; simp only [Int.toNat_natCast]
  rw [hr] at HRD
  have hil := h.img_len
  have hpe : 64 * p + 64 ≤ g.img.length := by
    rw [h.ok.len]
    have : p + 1 ≤ g.wear.length * g.pg := by omega
    omega
  have hpl : (pageF g p).length = 64 := by unfold pageF; rw [List.length_take, List.length_drop]; omega
  have HPL := Lib.hid hpl
  rw [hm]
  by_cases hlen : m ≠ 64
  · rw [if_pos hlen]
    have hk : ((m : Int) != 64) = true := by simp; omega
    obtain ⟨a0, a1, a2, a3, a4, a5, _⟩ := h6.1
    clear h hX hQ hm hb h6 hr h0 h0' hpl hlen hpe hil hp0 hp1 hd
    go_enter Try.func70, Try.ntmps70
    go_wp2_with (fail)
    try rw [hV]
    clear hV a0 a1 a2 a3 a4 a5
    (with_reducible refine HRD.out.mono ?_)
    rintro e w2 ⟨A2, n2, c2, rfl, hn2, hc21, hc22, hr2, hb2⟩
    have HB2 : Hid (Below w.heap.size w w2) := HBV.out.trans (hb2.mono HBV.out.size)
    have H61 := Lib.hid (H6.out.1.below hb2 (by omega))
    have H62 := Lib.hid (H6.out.2.below hb2 (by omega))
    clear hn2 hr2 hb2
    simp only
    obtain ⟨a0, a1, a2, a3, a4, a5, a6⟩ := H61.out
    obtain ⟨b0, b1, b2, b3, b4, b5, b6⟩ := H62.out
    have e0 := b6 0
    have e1 := b6 1
    have e2 := b6 2
    have e3 := b6 3
    have e4 := b6 4
    have e5 := b6 5
    clear a6 b6
    go_wp2
    (try simp only [Exit.inBlock, Exit.then])
    refine bodyPost_ret (v := .tuple #[(Rc.mk A c B d P r).v g, .int .i64 11]) ?_ rfl ⟨⟨A, c, B, d, P, r⟩, rfl, RAt.weak (X := X2 X w.heap.size) ?_ (fun _ => .inl), ?_⟩
    · rw [results_cell_tmp rfl]
      simp only [Rc.v]
      go_simp
    · (repeat (refine RAt.setCell ?_ _ _ (by first | exact x2_zero _ _ | exact x2_one _ _)))
      exact H.out.two.below HB2.out
    · (repeat (refine Below.setCell ?_ (by simp only; omega) _))
      exact HB2.out

  have hm64 : m = 64 := by omega
  subst hm64
  rw [if_neg (by omega)]
  obtain ⟨pgl, hpgl⟩ : ∃ l, pageF g p = l := ⟨_, rfl⟩
  rw [hpgl] at HRD HPL ⊢
  obtain ⟨a0, a1, a2, a3, a4, a5, _⟩ := h6.1
  have HIL := Lib.hid hil
  have HPE := Lib.hid hpe
  obtain ⟨R, hR⟩ : ∃ R, (if blankF pgl = false then (g, (12 : Int)) else if (cutF g).2 = true then ({ (cutF g).1 with img := lay g.img (64 * p) (torn b g.picks) }, 20) else ({ (cutF g).1 with img := lay g.img (64 * p) b }, 0)) = R := ⟨_, rfl⟩
  have hpr : progF g (p : Int) b = R := by
    unfold progF
    rw [if_neg h0, if_neg (by omega)]
    simp only [Int.toNat_natCast]
    rw [hpgl]
    exact hR
  have HROK : Hid R.1.ok := by rw [Hid, ← hpr]; exact progF_ok h.ok hb
  rw [hR]
  have HR := Lib.hid hR
  clear h hX hQ hm hb h6 hr h0 h0' hpl hlen hpe hil hp0 hp1 hd hpgl hR hpr
  go_enter Try.func70, Try.ntmps70
  go_wp2_with (fail)
  try rw [hV]
  clear hV a0 a1 a2 a3 a4 a5
  (with_reducible refine HRD.out.mono ?_)
  rintro e w2 ⟨A2, n2, c2, rfl, hn2, hc21, hc22, hr2, hb2⟩
  have HB2 : Hid (Below w.heap.size w w2) := HBV.out.trans (hb2.mono HBV.out.size)
  have H61 := Lib.hid (H6.out.1.below hb2 (by omega))
  have H62 := Lib.hid (H6.out.2.below hb2 (by omega))
  have hn64 : n2 = 64 := by rw [← hn2]; exact HPL.out
  subst hn64
  have HR2 := Lib.hid hr2
  have hg2 : w.heap.size + 1 < w2.heap.size := H62.out.lt
  clear hn2 hr2 hb2 HRD H6
  unfold maxLen at hc22
  simp only
  go_wp2
  go_loopw [32] (fun i wr => ∃ j : Nat, j ≤ 64 ∧ i = .int .i64 j ∧ blankF (pgl.take j) = true ∧ w2 = wr) (fun i _ => 64 - (intOf i).toNat)
  case atStart => exact ⟨0, by omega, rfl, by simp [blankF], rfl⟩
  case round =>
    obtain ⟨j, hj, rfl, hbl, rfl⟩ := hrel
    have HBL := Lib.hid hbl
    clear hbl
    by_cases hlt : j < 64
    · obtain ⟨z, hz⟩ := getElem?_of_lt (l := pgl) (k := j) (by rw [HPL.out]; exact hlt)
      obtain ⟨bb, oo, rfl, _, d0⟩ := HR2.out.rd.kint hz
      by_cases he : z = 255
      · have HBL2 := Lib.hid (blankF_step hz HBL.out he)
        have he' : (z != 255) = false := by simp [he]
        clear hz he
        go_wp2
        go_roundw
        case rel => exact ⟨j + 1, by omega, by go_num, HBL2.out, by first | rfl | trivial⟩
        case measure => simp [intOf]; omega
      · have HNB := Lib.hid (blankF_no hz he)
        have he' : (z != 255) = true := by simpa using he
        have hq := HR.out
        rw [if_pos HNB.out] at hq
        subst hq
        clear hz he
        (try simp only)
        obtain ⟨a0, a1, a2, a3, a4, a5, a6⟩ := H61.out
        obtain ⟨b0, b1, b2, b3, b4, b5, b6⟩ := H62.out
        have e0 := b6 0
        have e1 := b6 1
        have e2 := b6 2
        have e3 := b6 3
        have e4 := b6 4
        have e5 := b6 5
        clear a6 b6
        go_wp2
        (try simp only [Exit.inBlock, Exit.then])
        refine bodyPost_ret (v := .tuple #[(Rc.mk A c B d P r).v g, .int .i64 12]) ?_ rfl ⟨⟨A, c, B, d, P, r⟩, rfl, RAt.weak (X := X2 X w.heap.size) ?_ (fun _ => .inl), ?_⟩
        · rw [results_cell_tmp rfl]
          simp only [Rc.v]
          go_simp
        · (repeat (refine RAt.setCell ?_ _ _ (by first | exact x2_zero _ _ | exact x2_one _ _)))
          exact H.out.two.below HB2.out
        · (repeat (refine Below.setCell ?_ (by simp only; omega) _))
          exact HB2.out

    · have hj64 : j = 64 := by omega
      subst hj64
      have HNB : Hid (blankF pgl = true) := by
        have h1 := HBL.out
        rw [List.take_of_length_le (by rw [HPL.out]; exact Nat.le_refl _)] at h1
        exact h1
      have hq := HR.out
      rw [if_neg (by simp [HNB.out])] at hq
      have HQ2 := Lib.hid hq
      have HBN := Lib.hid (burn_any (H.out.below HB2.out))
      rw [cut_v] at HBN
      have HC2 := Lib.hid (H.out.below HB2.out).cut
      have HSM := Lib.hid (cutF_same g)
      obtain ⟨a0, a1, a2, a3, a4, a5, _⟩ := H61.out
      clear hq hlt HBL
      go_wp2_with (fail)
      clear a0 a1 a2 a3 a4 a5
      (with_reducible refine HBN.out.mono ?_)
      rintro e w3 ⟨rfl, hb3⟩
      have HB3 : Hid (Below w.heap.size w w3) := HB2.out.trans (hb3.mono HB2.out.size)
      have H63 := Lib.hid (H61.out.below hb3 (by omega))
      have H64 := Lib.hid (H62.out.below hb3 (by omega))
      have HC3 : Hid (RAt (X2 X w.heap.size) w3 ⟨A, c, B, d, P, r⟩ (cutF g).1) := H.out.cut.two.below HB3.out
      clear hb3 H61 H62 HBN HC2 HR2
      obtain ⟨g', hg'⟩ : ∃ g', (cutF g).1 = g' := ⟨_, rfl⟩
      obtain ⟨fails, hfl⟩ : ∃ z, (cutF g).2 = z := ⟨_, rfl⟩
      rw [hg', hfl] at HQ2
      rw [hg'] at HC3 HSM
      rw [hg', hfl]
      have HHG := Lib.hid hg'
      clear hg' hfl
      obtain ⟨NI, hNI⟩ : ∃ n, g.img.length = n := ⟨_, rfl⟩
      have HNI := Lib.hid hNI
      clear hNI
      obtain ⟨W3, hW3⟩ : ∃ W, put6 w3 w.heap.size (.slice A g.img.length c) (.int .i64 g.pg) (.slice B g.wear.length d) (.bool g'.down) (.int .i64 g'.fuse) (.slice P g.picks.length r) = W := ⟨_, rfl⟩
      have hs3 : W3.heap.size = w3.heap.size := by rw [← hW3]; exact put6_size _ _ _ _ _ _ _ _
      have HBW : Hid (Below w.heap.size w W3) := by rw [← hW3]; exact below_put6 HB3.out (Nat.le_refl _) _ _ _ _ _ _
      have HCW : Hid (RAt (X2 X w.heap.size) W3 ⟨A, c, B, d, P, r⟩ g') := by rw [← hW3]; exact HC3.out.put6 (x2_zero _ _) _ _ _ _ _ _
      have H6A : Hid (six W3 w.heap.size (.slice A g.img.length c) (.int .i64 g.pg) (.slice B g.wear.length d) (.bool g'.down) (.int .i64 g'.fuse) (.slice P g.picks.length r)) := by rw [← hW3]; exact H63.out.put _ _ _ _ _ _
      have H6B : Hid (six W3 (w.heap.size + 1) (.slice none 0 0) (.int .i64 0) (.slice none 0 0) (.bool false) (.int .i64 0) (.slice none 0 0)) := by rw [← hW3]; exact H64.out.far (by omega) _ _ _ _ _ _
      have hgW : w.heap.size + 1 < W3.heap.size := H6B.out.lt
      unfold put6 at hW3
      obtain ⟨a0, a1, a2, a3, a4, a5, a6⟩ := H63.out
      have f0 := a6 0
      have f1 := a6 1
      have f2 := a6 2
      have f3 := a6 3
      have f4 := a6 4
      have f5 := a6 5
      clear a6
      go_upto_region 13 with (fail)
      try rw [hW3]
      clear hW3 a0 a1 a2 a3 a4 a5 f0 f1 f2 f3 f4 f5 H63 H64 HC3 hs3 HB3
      rw [HNI.out] at H6A
      have c0b : (W3.alloc (.cells #[] 5)).cell? ⟨w.heap.size, 0, none⟩ = some (.slice A NI c) := (((Below.refl W3.heap.size W3).alloc (Nat.le_refl _) _).cell (p := ⟨w.heap.size, 0, none⟩) (by simp only; omega)).trans H6A.out.1
      have hil := HIL.out
      rw [HNI.out] at hil
      have HKL : Hid ((kcells .u8 g.img).length = NI * 1) := by rw [Hid, kcells_length, HNI.out, Nat.mul_one]
      obtain ⟨i5, hi5, hz50, hz51, hz52⟩ := info_parts info5
      have hm0 : 0 ≤ maxLen := Nat.zero_le _
      have hpe2 := HPE.out
      rw [HNI.out] at hpe2
      go_wp2_with (first | (at_builtin; refine wpList_append_rd _ rfl _ _ 22 rfl W3.heap.size 5 i5 (.int .u8 0) 1 1 Try.underlying22 hi5 hz50 hz51 hz52 rfl (by omega) _ 0 [] rfl (World.ownsRow_lit W3 #[] 0 (Nat.le_refl _) hm0 rfl) w.heap.size _ NI _ (kcells .u8 g.img) rfl (H.out.a.rd.below (HBW.out.alloc HBW.out.size _) (Nat.le_refl _)) HKL.out (kcells_one _ _) (by unfold maxLen; omega) (by omega) (by simp) ?_))
      intro v' w4 hown hgrow hat
      have HB4 : Hid (Below W3.heap.size W3 w4) := ((Below.refl W3.heap.size W3).alloc (Nat.le_refl _) _).grown hgrow (by simp) (fun k hk => by have hk' : some W3.heap.size = some k := hk; injection hk'; omega)
      try simp only [Nat.zero_add, List.nil_append] at hown
      obtain ⟨A4, c4, rfl, hc41, hc42, hg4⟩ := own_form hown
      obtain ⟨gb, rfl, hgb1, hgb2⟩ := hg4 (by omega)
      have HO := Lib.hid hown
      obtain ⟨b', hb'⟩ : ∃ b', (if fails = true then torn b g.picks else b) = b' := ⟨_, rfl⟩
      have hbl : b'.length = 64 := by rw [← hb']; split; rw [torn_length, HM.out]; exact HM.out
      have HB' := Lib.hid hb'
      have HBL' := Lib.hid hbl
      clear hown hgrow hat c0b hg4 hb' hbl
      unfold maxLen at hc42
      go_wp2
      go_loopw [51] (fun i wr => ∃ j : Nat, j ≤ 64 ∧ i = .int .i64 j ∧ wr.ownsRow W3.heap.size 5 1 (.slice (some ⟨gb, 0, none⟩) NI c4) NI (kcells .u8 (lay g.img (64 * p) (b'.take j))) ∧ Below W3.heap.size W3 wr) (fun i _ => 64 - (intOf i).toNat)
      case atStart => exact ⟨0, by omega, rfl, by rw [List.take_zero, lay_nil]; exact HO.out, HB4.out⟩
      case round =>
        obtain ⟨j, hj, rfl, ho, hb⟩ := hrel
        have HOj := Lib.hid ho
        have HBj := Lib.hid hb
        have HBw : Hid (Below w.heap.size w wr) := HBW.out.trans (HBj.out.mono HBW.out.size)
        clear ho hb
        by_cases hlt : j < 64
        · obtain ⟨z, hz⟩ := getElem?_of_lt (l := b) (k := j) (by rw [HM.out]; exact hlt)
          obtain ⟨bb, oo, rfl, hbs, d0⟩ := (HQ.out.below HBw.out (Nat.le_refl _)).kint hz
          obtain ⟨y, hy⟩ := getElem?_of_lt (l := b') (k := j) (by rw [HBL'.out]; exact hlt)
          have hll : (lay g.img (64 * p) (b'.take j)).length = NI := by rw [lay_length _ _ _ (by rw [List.length_take, HBL'.out, HNI.out]; omega), HNI.out]
          obtain ⟨u, hu⟩ := getElem?_of_lt (l := lay g.img (64 * p) (b'.take j)) (k := 64 * p + j) (by rw [hll]; omega)
          have k1 : (0 : Int) ≤ 64 * (p : Int) + (j : Int) := by omega
          have k2 : 64 * (p : Int) + (j : Int) < (NI : Int) := by omega
          have k3 : (64 * (p : Int) + (j : Int)).toNat = 64 * p + j := by omega
          have HST : Hid ((lay g.img (64 * p) (b'.take j)).set (64 * p + j) y = lay g.img (64 * p) (b'.take (j + 1))) := lay_step (by rw [HBL'.out, HNI.out]; exact hpe2) hy
          cases hfl : fails with
          | false =>
            have hxy : z = y := by
              have h1 := HB'.out
              rw [hfl, if_neg (by simp)] at h1
              rw [← h1, hz] at hy
              exact Option.some.inj hy
            subst hxy
            have e0 := own_k hll HOj.out hu
            have e1 : wr.frozen? ⟨gb, 64 * p + j, none⟩ = false := HOj.out.frozenAt _
            have n1 := own_set_k HOj.out (64 * p + j) z
            rw [HST.out] at n1
            have HN1 := Lib.hid n1
            have HN2 : Hid (Below W3.heap.size W3 _) := HBj.out.setCell (p := ⟨gb, 64 * p + j, none⟩) hgb1 (.int .u8 z)
            clear hz hy hu n1 hll
            go_wp2
            go_roundw
            case rel => exact ⟨j + 1, by omega, by go_num, HN1.out, HN2.out⟩
            case measure => simp [intOf]; omega
          | true =>
            have HXY : Hid (bits .or .u8 z (pickF g.picks j) = y) := by
              have h1 := HB'.out
              rw [hfl, if_pos rfl] at h1
              rw [← h1, torn_get, hz] at hy
              show _ = _
              simpa [orB] using hy
            have HPK := Lib.hid (pickR_any (HCW.out.below HBj.out) j (by omega))
            simp only [HSM.out.2.2.2] at HPK
            rw [Rc.v, HSM.out.1, HSM.out.2.1, HSM.out.2.2.1, HSM.out.2.2.2, HNI.out] at HPK
            obtain ⟨a0, a1, a2, a3, a4, a5, _⟩ := H6A.out.below HBj.out (by omega)
            clear hz hy
            go_wp2_with (fail)
            clear a0 a1 a2 a3 a4 a5
            (with_reducible refine HPK.out.mono ?_)
            rintro e w5 ⟨rfl, hb5⟩
            have hxy := HXY.out
            have ho5 := own_below HOj.out hb5
            have e0 := own_k hll ho5 hu
            have e1 : w5.frozen? ⟨gb, 64 * p + j, none⟩ = false := ho5.frozenAt _
            have n1 := own_set_k ho5 (64 * p + j) y
            rw [HST.out] at n1
            have HN1 := Lib.hid n1
            have HN2 : Hid (Below W3.heap.size W3 _) := (HBj.out.trans (hb5.mono HBj.out.size)).setCell (p := ⟨gb, 64 * p + j, none⟩) hgb1 (.int .u8 y)
            generalize pickF g.picks j = pk at *
            clear hu n1 hll hb5 ho5 d0
            go_wp2
            go_roundw
            case rel => exact ⟨j + 1, by omega, by go_num, HN1.out, HN2.out⟩
            case measure => simp [intOf]; omega
        · have hj64 : j = 64 := by omega
          subst hj64
          have hfin := HOj.out
          rw [List.take_of_length_le (by rw [HBL'.out]; exact Nat.le_refl _), ← HB'.out] at hfin
          have hq := HQ2.out
          cases hfl : fails with
          | false =>
            rw [hfl, if_neg (by simp)] at hfin hq
            subst hq
            have HFIN := Lib.hid hfin
            have hll : (lay g.img (64 * p) b).length = NI := by rw [lay_length _ _ _ (by rw [HM.out, HNI.out]; exact hpe2), HNI.out]
            have HLL := Lib.hid hll
            have hcw := HCW.out.below HBj.out
            have HRES : Hid (RAt (X2 X w.heap.size) wr ⟨some ⟨gb, 0, none⟩, c4, B, d, P, r⟩ { g' with img := (lay g.img (64 * p) b) }) := ⟨HROK.out, RdX.new (x2_lt HX.out hgW) (Nat.le_refl _) (by rw [kcells_length]; exact hll) hfin, by simp only [hll]; exact hc41, hc42, hcw.b, hcw.b1, hcw.b2, hcw.p, hcw.p1, hcw.p2⟩
            obtain ⟨a0, a1, a2, a3, a4, a5, a6⟩ := H6A.out.below HBj.out (by omega)
            obtain ⟨b0, b1, b2, b3, b4, b5, b6⟩ := H6B.out.below HBj.out (by omega)
            have f0 := a6 0
            have e0 := b6 0
            have e1 := b6 1
            have e2 := b6 2
            have e3 := b6 3
            have e4 := b6 4
            have e5 := b6 5
            clear a6 b6 hfin hll hcw
            go_wp2
            (try simp only [Exit.inBlock, Exit.then])
            refine bodyPost_ret (v := .tuple #[.agg #[.slice (some ⟨gb, 0, none⟩) NI c4, .int .i64 g.pg, .slice B g.wear.length d, .bool g'.down, .int .i64 g'.fuse, .slice P g.picks.length r], .int .i64 0]) ?_ rfl ⟨⟨some ⟨gb, 0, none⟩, c4, B, d, P, r⟩, by simp only [Rc.v, HSM.out.1, HSM.out.2.2.1, HSM.out.2.2.2, HLL.out], RAt.weak (X := X2 X w.heap.size) ?_ (fun _ => .inl), ?_⟩
            · rw [results_cell_tmp rfl]
              go_simp
            · (repeat (refine RAt.setCell ?_ _ _ (by first | exact x2_zero _ _ | exact x2_one _ _)))
              exact HRES.out
            · (repeat (refine Below.setCell ?_ (by simp only; omega) _))
              exact HBw.out
          | true =>
            rw [hfl, if_pos rfl] at hfin hq
            subst hq
            have HFIN := Lib.hid hfin
            have hll : (lay g.img (64 * p) (torn b g.picks)).length = NI := by rw [lay_length _ _ _ (by rw [torn_length, HM.out, HNI.out]; exact hpe2), HNI.out]
            have HLL := Lib.hid hll
            have hcw := HCW.out.below HBj.out
            have HRES : Hid (RAt (X2 X w.heap.size) wr ⟨some ⟨gb, 0, none⟩, c4, B, d, P, r⟩ { g' with img := (lay g.img (64 * p) (torn b g.picks)) }) := ⟨HROK.out, RdX.new (x2_lt HX.out hgW) (Nat.le_refl _) (by rw [kcells_length]; exact hll) hfin, by simp only [hll]; exact hc41, hc42, hcw.b, hcw.b1, hcw.b2, hcw.p, hcw.p1, hcw.p2⟩
            obtain ⟨a0, a1, a2, a3, a4, a5, a6⟩ := H6A.out.below HBj.out (by omega)
            obtain ⟨b0, b1, b2, b3, b4, b5, b6⟩ := H6B.out.below HBj.out (by omega)
            have f0 := a6 0
            have e0 := b6 0
            have e1 := b6 1
            have e2 := b6 2
            have e3 := b6 3
            have e4 := b6 4
            have e5 := b6 5
            clear a6 b6 hfin hll hcw
            go_wp2
            (try simp only [Exit.inBlock, Exit.then])
            refine bodyPost_ret (v := .tuple #[.agg #[.slice (some ⟨gb, 0, none⟩) NI c4, .int .i64 g.pg, .slice B g.wear.length d, .bool g'.down, .int .i64 g'.fuse, .slice P g.picks.length r], .int .i64 20]) ?_ rfl ⟨⟨some ⟨gb, 0, none⟩, c4, B, d, P, r⟩, by simp only [Rc.v, HSM.out.1, HSM.out.2.2.1, HSM.out.2.2.2, HLL.out], RAt.weak (X := X2 X w.heap.size) ?_ (fun _ => .inl), ?_⟩
            · rw [results_cell_tmp rfl]
              go_simp
            · (repeat (refine RAt.setCell ?_ _ _ (by first | exact x2_zero _ _ | exact x2_one _ _)))
              exact HRES.out
            · (repeat (refine Below.setCell ?_ (by simp only; omega) _))
              exact HBw.out
end Go.Proofs.Ytjdknddnanopaaa
