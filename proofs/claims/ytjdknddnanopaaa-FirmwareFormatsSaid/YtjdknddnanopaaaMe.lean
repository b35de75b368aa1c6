
/-
  Several texts in one: W47, W48, W49, W50, W51, PlainO, PlainQ, W52.
-/
import Derived.Test.YtjdknddnanopaaaMc
import Derived.Test.YtjdknddnanopaaaMd
import Derived.Test.YtjdknddnanopaaaMa
import Derived.Test.YtjdknddnanopaaaMb
/-
  Params: checkOpen, Clone of a specification, read, legal.
-/
namespace Go.Proofs.Ytjdknddnanopaaa
open Go.RowKit
set_option linter.unusedVariables false

theorem info99 : (Try.prog.info? 141).map (fun i => (i.zero, i.size, i.bytes)) = some (some (.agg #[.int .i64 0, .int .i64 0, .int .i64 0]), 3, 24) := by kernel_rfl
theorem eqs86_some (a : Addr) (n c : Nat) (w : World) : (binOp .eql 43 (.slice (some a) n c) (.slice none 0 0)).run Try.prog w = .ok (.bool false) w := by kernel_rfl
theorem eqs86_none (n c : Nat) (w : World) : (binOp .eql 43 (.slice none n c) (.slice none 0 0)).run Try.prog w = .ok (.bool true) w := by kernel_rfl
theorem pcells_one (l : List Par) : ∀ u ∈ pcells l, u.oneCell' = true := by
  intro u hu
  simp only [pcells, List.mem_flatMap] at hu
  obtain ⟨x, _, h⟩ := hu
  simp only [Par.cells, List.mem_cons, List.not_mem_nil, or_false] at h
  rcases h with rfl | rfl | rfl <;> rfl
theorem pcells_len3 (l : List Par) : (pcells l).length = l.length * 3 := flat_length Par.cells 3 (fun _ => rfl) l

set_option maxHeartbeats 2000000 in
theorem clonep_any (A : Option Addr) (n c B : Nat) (b : List Par) (w : World) (hA : Rd w B A (pcells b)) (hB : B ≤ w.heap.size) (hn : b.length = n) (hm : n ≤ 1000000) :
    Calls Try.prog 97 #[.slice A n c] w fun e w' => ∃ v', e = .returned v' ∧ w'.ownsRow w.heap.size 141 3 v' n (pcells b) ∧ Below w.heap.size w w' := by
  cases A with
  | none =>
    have hb : b = [] := by
      cases hbb : b with
      | nil => rfl
      | cons x r =>
        obtain ⟨_, _, e, _⟩ := hA (by rw [hbb]; simp [pcells, Par.cells])
        cases e
    subst hb
    simp at hn
    subst hn
    have h1 := eqs86_none 0 c
    clear hA
    go_enter Try.func97, Try.ntmps97
    go_wp2
    go_ret
    exact ⟨_, rfl, World.ownsRow_nil .., Below.refl _ _⟩
  | some a =>
    have h1 := eqs86_some a n c
    have HA := Lib.hid hA
    have HKL : Hid ((pcells b).length = n * 3) := by rw [Hid, pcells_len3, hn]
    obtain ⟨i9, hi9, hz90, hz91, hz92⟩ := info_parts info99
    have hm0 : 0 ≤ maxLen := Nat.zero_le _
    clear hA hn
    go_enter Try.func97, Try.ntmps97
    go_wp2_with (at_builtin; refine wpList_append_rd _ rfl _ _ 43 rfl w.heap.size 141 i9 (.agg #[.int .i64 0, .int .i64 0, .int .i64 0]) 3 24 Try.underlying43 hi9 hz90 hz91 hz92 rfl (by omega) _ 0 [] rfl (World.ownsRow_lit w #[] 0 (Nat.le_refl _) hm0 rfl) B _ n c (pcells b) rfl (HA.out.below ((Below.refl w.heap.size w).alloc (Nat.le_refl _) _) hB) HKL.out (pcells_one _) (by unfold maxLen; omega) (by omega) (by simp) ?_)
    intro v' w2 hown hgrow hat
    have HB2 : Hid (Below w.heap.size w w2) := ((Below.refl w.heap.size w).alloc (Nat.le_refl _) _).grown hgrow (by simp) (fun k hk => by have hk' : some w.heap.size = some k := hk; injection hk'; omega)
    try simp only [Nat.zero_add, List.nil_append] at hown
    have HO := Lib.hid hown
    clear hown hgrow hat
    go_wp2
    go_ret
    exact ⟨_, rfl, by simpa using HO.out, HB2.out⟩

def badP (p : Par) : Bool := decide (p.df < p.lo ∨ p.hi < p.df)
theorem any_step {l : List Par} {k : Nat} {p : Par} (hp : l[k]? = some p) (h : (l.take k).any badP = false) (hb : badP p = false) : (l.take (k + 1)).any badP = false := by
  rw [take_snoc_get l k p hp, List.any_append, h, Bool.false_or]
  simp [hb]
theorem any_yes {l : List Par} {k : Nat} {p : Par} (hp : l[k]? = some p) (hb : badP p = true) : l.any badP = true := List.any_eq_true.2 ⟨p, List.mem_of_getElem? hp, hb⟩

section
variable {w0 w : World} {L : Lc} {f : Fl}

set_option maxRecDepth 100000 in
set_option maxHeartbeats 8000000 in
theorem check_any (h : FlAt w0 w L f) (first blocks : Int) (hf1 : I64 first) (hb1 : I64 blocks) (A : Option Addr) (n c : Nat) (sp : List Par) (hA : Rd w w.heap.size A (pcells sp)) (hn : sp.length = n) (hnc : n ≤ c) (hcm : c ≤ maxLen) (hok : ∀ p ∈ sp, p.ok) :
    Calls Try.prog 96 #[.pointer (some ⟨L.d, 0, none⟩), .int .i64 first, .int .i64 blocks, .slice A n c] w fun e w' => e = .returned (errV (openE f first blocks sp)) ∧ Below w.heap.size w w' := by
  unfold maxLen at hcm
  unfold I64 at hf1 hb1
  have h1 := eqp_some L.d
  have HDN := Lib.hid (down_any h)
  have HB := Lib.hid (blocks_any h)
  have hw := h.ok.b2
  have HA := Lib.hid hA
  have HN := Lib.hid hn
  have HOK := Lib.hid hok
  have H := Lib.hid h
  have HW1 := Lib.hid (fun w => within51 blocks 2 16 w)
  have HW2 := Lib.hid (fun w => within51 n 1 48 w)
  by_cases hd : f.down = true
  · have HE : Hid (openE f first blocks sp = 20) := by unfold openE; rw [Hid, if_pos hd]
    rw [hd] at HDN
    clear h hA hn hok hd
    go_enter Try.func96, Try.ntmps96
    go_wp2_with (fail)
    (with_reducible refine HDN.out.mono ?_)
    rintro e w1 ⟨rfl, rfl⟩
    go_wp2
    go_ret
    rw [HE.out]
    exact ⟨rfl, Below.refl _ _⟩
  have hd' : f.down = false := by simpa using hd
  have HD := Lib.hid hd'
  rw [hd'] at HDN
  by_cases hb : 2 ≤ blocks ∧ blocks ≤ 16
  case neg =>
    have HE : Hid (openE f first blocks sp = 3) := by unfold openE; rw [Hid, if_neg hd, if_pos (by omega)]
    rw [decide_eq_false hb] at HW1
    clear h hA hn hok hd hd' hb
    go_enter Try.func96, Try.ntmps96
    go_wp2_with (fail)
    (with_reducible refine HDN.out.mono ?_)
    rintro e w1 ⟨rfl, rfl⟩
    go_wp2_with (fail)
    (with_reducible refine (HW1.out _).mono ?_)
    rintro e w1 ⟨rfl, rfl⟩
    go_wp2
    go_ret
    rw [HE.out]
    exact ⟨rfl, Below.refl _ _⟩
  rw [decide_eq_true hb] at HW1
  by_cases hi : first < 0 ∨ (f.wear.length : Int) - blocks < first
  · have HE : Hid (openE f first blocks sp = 10) := by unfold openE; rw [Hid, if_neg hd, if_neg (by omega), if_pos hi]
    by_cases hi0 : first < 0
    · have d1 : decide (first < 0) = true := by simpa using hi0
      clear h hA hn hok hd hd' hi
      go_enter Try.func96, Try.ntmps96
      go_wp2_with (fail)
      (with_reducible refine HDN.out.mono ?_)
      rintro e w1 ⟨rfl, rfl⟩
      go_wp2_with (fail)
      (with_reducible refine (HW1.out _).mono ?_)
      rintro e w1 ⟨rfl, rfl⟩
      go_wp2
      go_ret
      rw [HE.out]
      exact ⟨rfl, Below.refl _ _⟩
    · have hi2 : (f.wear.length : Int) - blocks < first := by omega
      have d1 : decide (first < 0) = false := by simpa using hi0
      obtain ⟨hb2, hb3⟩ := hb
      generalize f.wear.length = nw at *
      have d2 : decide ((nw : Int) - blocks < first) = true := by simpa using hi2
      clear h hA hn hok hd hd' hi hi0
      go_enter Try.func96, Try.ntmps96
      go_wp2_with (fail)
      (with_reducible refine HDN.out.mono ?_)
      rintro e w1 ⟨rfl, rfl⟩
      go_wp2_with (fail)
      (with_reducible refine (HW1.out _).mono ?_)
      rintro e w1 ⟨rfl, rfl⟩
      go_wp2_with (fail)
      (with_reducible refine HB.out.mono ?_)
      rintro e w1 ⟨rfl, rfl⟩
      go_wp2
      go_ret
      rw [HE.out]
      exact ⟨rfl, Below.refl _ _⟩
  have hi0 : 0 ≤ first := by omega
  have hi2 : first ≤ (f.wear.length : Int) - blocks := by omega
  have d1 : decide (first < 0) = false := by simpa using hi0
  obtain ⟨hb2, hb3⟩ := hb
  by_cases hl : 1 ≤ n ∧ n ≤ 48
  case neg =>
    have HE : Hid (openE f first blocks sp = 3) := by unfold openE; rw [Hid, if_neg hd, if_neg (by omega), if_neg hi, if_pos (by omega)]
    rw [decide_eq_false (show ¬ (1 ≤ (n : Int) ∧ (n : Int) ≤ 48) by omega)] at HW2
    generalize f.wear.length = nw at *
    have d2 : decide ((nw : Int) - blocks < first) = false := by simpa using hi2
    clear h hA hn hok hd hd' hi hl
    go_enter Try.func96, Try.ntmps96
    go_wp2_with (fail)
    (with_reducible refine HDN.out.mono ?_)
    rintro e w1 ⟨rfl, rfl⟩
    go_wp2_with (fail)
    (with_reducible refine (HW1.out _).mono ?_)
    rintro e w1 ⟨rfl, rfl⟩
    go_wp2_with (fail)
    (with_reducible refine HB.out.mono ?_)
    rintro e w1 ⟨rfl, rfl⟩
    go_wp2_with (fail)
    (with_reducible refine (HW2.out _).mono ?_)
    rintro e w1 ⟨rfl, rfl⟩
    go_wp2
    go_ret
    rw [HE.out]
    exact ⟨rfl, Below.refl _ _⟩
  rw [decide_eq_true (show 1 ≤ (n : Int) ∧ (n : Int) ≤ 48 by omega)] at HW2
  have HE : Hid (openE f first blocks sp = if sp.any badP = true then 3 else if f.pg < pgs n then 11 else 0) := by
    unfold openE
    rw [Hid, if_neg hd, if_neg (by omega), if_neg hi, if_neg (by omega), hn]
    rfl
  have HPG := Lib.hid (fun (w' : World) (hb : Below w.heap.size w w') => pages_any (h.later hb))
  have HPGS := Lib.hid (fun w => pgs_any n (by omega) w)
  have hp16 := h.ok.p2
  have hk8 := pgs_le hl.2
  generalize f.wear.length = nw at *
  have d2 : decide ((nw : Int) - blocks < first) = false := by simpa using hi2
  obtain ⟨hl1, hl2⟩ := hl
  clear h hA hn hok hd hd' hi
  go_enter Try.func96, Try.ntmps96
  go_wp2_with (fail)
  (with_reducible refine HDN.out.mono ?_)
  rintro e w1 ⟨rfl, rfl⟩
  go_wp2_with (fail)
  (with_reducible refine (HW1.out _).mono ?_)
  rintro e w1 ⟨rfl, rfl⟩
  go_wp2_with (fail)
  (with_reducible refine HB.out.mono ?_)
  rintro e w1 ⟨rfl, rfl⟩
  go_wp2_with (fail)
  (with_reducible refine (HW2.out _).mono ?_)
  rintro e w1 ⟨rfl, rfl⟩
  clear d1 d2
  go_wp2
  go_loopw [44] (fun i wr => ∃ k : Nat, k ≤ n ∧ i = .int .i64 k ∧ (sp.take k).any badP = false ∧ Below w.heap.size w wr) (fun i _ => n - (intOf i).toNat)
  case atStart => exact ⟨0, Nat.zero_le _, rfl, rfl, Below.refl _ _⟩
  case round =>
    obtain ⟨k, hk, rfl, ht, hbw⟩ := hrel
    have HT := Lib.hid ht
    have HBW := Lib.hid hbw
    clear ht hbw
    by_cases hlt : k < n
    · obtain ⟨p, hp⟩ := getElem?_of_lt (l := sp) (k := k) (by rw [HN.out]; exact hlt)
      obtain ⟨b, off, rfl, hbl, e0, e1, e2⟩ := (RdX.of (X := fun _ => False) (HA.out.below HBW.out (Nat.le_refl _)) HBW.out.size (fun _ h => h.elim)).par hp
      have HP := Lib.hid hp
      have HB3 : Hid (Below w.heap.size w (wr.alloc (.cells #[.int .i64 p.lo, .int .i64 p.hi, .int .i64 p.df] 141))) := HBW.out.alloc HBW.out.size _
      clear hp
      by_cases q1 : p.df < p.lo
      · have d1 : decide (p.df < p.lo) = true := by simpa using q1
        have HF : Hid (openE f first blocks sp = 3) := by
          rw [Hid, HE.out, if_pos (any_yes HP.out (by unfold badP; rw [decide_eq_true (.inl q1)]))]
        clear q1
        go_wp2
        go_ret
        rw [HF.out]
        exact ⟨rfl, HB3.out⟩
      · have d1 : decide (p.df < p.lo) = false := by simpa using q1
        by_cases q2 : p.hi < p.df
        · have d2 : decide (p.hi < p.df) = true := by simpa using q2
          have HF : Hid (openE f first blocks sp = 3) := by
            rw [Hid, HE.out, if_pos (any_yes HP.out (by unfold badP; rw [decide_eq_true (.inr q2)]))]
          clear q1 q2
          go_wp2
          go_ret
          rw [HF.out]
          exact ⟨rfl, HB3.out⟩
        · have d2 : decide (p.hi < p.df) = false := by simpa using q2
          have HS := Lib.hid (any_step HP.out HT.out (by unfold badP; rw [decide_eq_false (by omega)]))
          clear q1 q2
          go_wp2
          go_roundw
          case rel => exact ⟨k + 1, by omega, by go_num, HS.out, HB3.out⟩
          case measure => simp [intOf]; omega
    · have hkn : k = n := by omega
      subst hkn
      have HNB : Hid (sp.any badP = false) := by
        have := HT.out
        rwa [List.take_of_length_le (by rw [HN.out]; exact Nat.le_refl _)] at this
      have HPW := Lib.hid (HPG.out wr HBW.out)
      by_cases hs : f.pg < pgs k
      · have HF : Hid (openE f first blocks sp = 11) := by rw [Hid, HE.out, HNB.out, if_neg (by decide), if_pos hs]
        generalize f.pg = pg at *
        generalize pgs k = K at *
        have d3 : decide (pg < K) = true := by simpa using hs
        clear HE
        go_wp2_with (fail)
        (with_reducible refine (HPGS.out _).mono ?_)
        rintro e w1 ⟨rfl, rfl⟩
        go_wp2_with (fail)
        (with_reducible refine HPW.out.mono ?_)
        rintro e w1 ⟨rfl, rfl⟩
        go_wp2
        go_ret
        rw [HF.out]
        exact ⟨rfl, HBW.out⟩
      · have HF : Hid (openE f first blocks sp = 0) := by rw [Hid, HE.out, HNB.out, if_neg (by decide), if_neg hs]
        generalize f.pg = pg at *
        generalize pgs k = K at *
        have d3 : decide (pg < K) = false := by simpa using hs
        clear HE
        go_wp2_with (fail)
        (with_reducible refine (HPGS.out _).mono ?_)
        rintro e w1 ⟨rfl, rfl⟩
        go_wp2_with (fail)
        (with_reducible refine HPW.out.mono ?_)
        rintro e w1 ⟨rfl, rfl⟩
        go_wp2
        go_ret
        rw [HF.out]
        exact ⟨rfl, HBW.out⟩
end
end Go.Proofs.Ytjdknddnanopaaa

/-
  Params: read, legal.
-/
namespace Go.Proofs.Ytjdknddnanopaaa
open Go.RowKit
set_option linter.unusedVariables false

/-- The pages that have been read. -/
structure PgI (w wr : World) (v : Value) (vs : List Value) (pg : Nat → List Int) (k : Nat) : Prop where
  own : wr.ownsRow w.heap.size 22 1 v k vs
  pgf : ∀ i, i < k → ∃ g c, vs[i]? = some (.slice (some ⟨g, 0, none⟩) 64 c) ∧ wr.ownsRow w.heap.size 5 1 (.slice (some ⟨g, 0, none⟩) 64 c) 64 (kcells .u8 (pg i))
  len : ∀ i, i < k → (pg i).length = 64
  below : Below w.heap.size w wr
theorem PgI.later {w wr w' : World} {v : Value} {vs : List Value} {pg : Nat → List Int} {k : Nat} (h : PgI w wr v vs pg k) (hb : Below wr.heap.size wr w') : PgI w w' v vs pg k :=
  ⟨own_below h.own hb, fun i hi => by
    obtain ⟨g, c, h1, h2⟩ := h.pgf i hi
    exact ⟨g, c, h1, own_below h2 hb⟩, h.len, h.below.trans (hb.mono h.below.size)⟩
theorem PgI.push {w W W' : World} {v v' : Value} {vs : List Value} {pg : Nat → List Int} {k g c : Nat} {o : Obj} (h : PgI w W v vs pg k)
    (hp : W.ownsRow w.heap.size 5 1 (.slice (some ⟨g, 0, none⟩) 64 c) 64 (kcells .u8 (pg k))) (hlen : (pg k).length = 64)
    (ho : W'.ownsRow w.heap.size 22 1 v' (k + 1) (vs ++ [.slice (some ⟨g, 0, none⟩) 64 c])) (hg : (W.alloc o).grownBy W' v.ownBlock) : PgI w W' v' (vs ++ [.slice (some ⟨g, 0, none⟩) 64 c]) pg (k + 1) := by
  have hb : Below W.heap.size W (W.alloc o) := (Below.refl _ _).alloc (Nat.le_refl _) o
  have h1 := h.later hb
  have hp1 := own_below hp hb
  have hl : vs.length = k := by have := h.own.1; simpa using this
  refine ⟨ho, fun i hi => ?_, fun i hi => ?_, h1.below.grown hg h1.below.size (fun k hk => (h1.own.lt k hk).1)⟩
  · by_cases e : i = k
    · subst e
      exact ⟨g, c, by rw [List.getElem?_append_right (by omega), hl]; simp, kept_of hp1 hg (fun g' hg' e' => own_ne_own h1.own hp1 (by decide) g' e' hg')⟩
    · obtain ⟨g', c', a1, a2⟩ := h1.pgf i (by omega)
      exact ⟨g', c', by rw [List.getElem?_append_left (by omega)]; exact a1, kept_of a2 hg (fun g2 hg' e' => own_ne_own h1.own a2 (by decide) g2 e' hg')⟩
  · by_cases e : i = k
    · subst e; exact hlen
    · exact h.len i (by omega)
theorem PgI.rd {w wr : World} {A : Option Addr} {n c : Nat} {vs : List Value} {pg : Nat → List Int} (h : PgI w wr (.slice A n c) vs pg n) (X : Nat → Prop) (hX : ∀ b, X b → b < w.heap.size) : RdP X wr A ((List.range n).map pg) := by
  have hl : vs.length = n := by have := h.own.1; simpa using this
  refine ⟨vs, rdx_own hl h.own hX, by simp [hl], fun i p hp => ?_⟩
  have hi : i < n := by have := (List.getElem?_eq_some_iff.1 hp).1; simpa using this
  rw [List.getElem?_map, List.getElem?_range hi] at hp
  injection hp with hp
  subst hp
  obtain ⟨g, c, a1, a2⟩ := h.pgf i hi
  obtain ⟨_, _, hv, h1, h2, _⟩ := own_read a2
  injection hv with hv1 hv2 hv3
  subst hv3
  exact ⟨_, 64, _, a1, h.len i hi, h1, h2, rdx_own (by rw [kcells_length, h.len i hi]) a2 hX⟩

section
variable {w0 w : World} {L : Lc} {f : Fl}

set_option maxRecDepth 100000 in
set_option maxHeartbeats 8000000 in
theorem sread_any (h : FlAt w0 w L f) (hd : f.down = false) {D fi : Nat} {A : Option Addr} {n c : Nat} (c0 : w.cell? ⟨D, 0, none⟩ = some (.pointer (some ⟨L.d, 0, none⟩))) (c1 : w.cell? ⟨D, 1, none⟩ = some (.int .i64 fi)) (c3 : w.cell? ⟨D, 3, none⟩ = some (.slice A n c)) (n1 : 1 ≤ n) (n2 : n ≤ 48) (hfi : fi ≤ 64)
    (b j : Nat) (hb2 : b < 1000) (hj2 : j < 1000) (a : Nat) (ha : (fi + b) * f.pg + j * pgs n = a) (hin : a + pgs n ≤ f.wear.length * f.pg) (X : Nat → Prop) (hX : ∀ b, X b → b < w.heap.size) :
    Calls Try.prog 99 #[.pointer (some ⟨D, 0, none⟩), .int .i64 b, .int .i64 j] w fun e w' => ∃ A' c', e = .returned (.tuple #[.slice A' (pgs n) c', .nilIface]) ∧ pgs n ≤ c' ∧ c' ≤ maxLen ∧ RdP X w' A' (pagesF f a (pgs n)) ∧ Below w.heap.size w w' := by
  have g1 := ne_nil
  have hDlt := World.block_lt_of_cell? w _ c0
  have HPG : Hid (∀ W', Below w.heap.size w W' → Calls Try.prog 116 #[.pointer (some ⟨D, 0, none⟩), .int .i64 b, .int .i64 j] W' fun e w' => e = .returned (.int .i64 (a : Nat)) ∧ ∃ q, w' = W'.drewN q) := fun W' hbl => by
    rw [← ha]
    exact spage_h (h.later hbl) ((hbl.cell (p := ⟨D, 0, none⟩) hDlt).trans c0) ((hbl.cell (p := ⟨D, 1, none⟩) hDlt).trans c1) ((hbl.cell (p := ⟨D, 3, none⟩) hDlt).trans c3) n1 n2 hfi (b : Int) (j : Int) b j rfl rfl hb2 hj2
  have H88 := Lib.hid (fun w => pgs_any n (by omega) w)
  have hk8 := pgs_le n2
  have hm := pages_1024 h.ok
  have HX := Lib.hid hX
  have HLEN : Hid (∀ i, i < pgs n → (pageF f (a + i)).length = 64) := fun i hi => pageF_len h.ok (by omega)
  have HRD : Hid (∀ W' (i : Nat), Below w.heap.size w W' → i < pgs n → Calls Try.prog 115 #[.pointer (some ⟨L.d, 0, none⟩), .int .i64 ((a : Int) + (i : Int))] W' fun e w' => ∃ g c, e = .returned (.tuple #[.slice (some ⟨g, 0, none⟩) 64 c, .nilIface]) ∧ w'.ownsRow W'.heap.size 5 1 (.slice (some ⟨g, 0, none⟩) 64 c) 64 (kcells .u8 (pageF f (a + i))) ∧ Below W'.heap.size W' w') := by
    intro W' i hbl hi
    have e1 : (a : Int) + (i : Int) = ((a + i : Nat) : Int) := by push_cast; rfl
    refine (read_any (h.later hbl) ((a : Int) + (i : Int))).mono ?_
    rw [e1, readF_in hd (by omega : a + i < f.wear.length * f.pg)]
    simp only [HLEN.out i hi]
    rintro e w' ⟨v', rfl, ho, hbb⟩
    obtain ⟨A2, c2, rfl, _, _, hg⟩ := own_form ho
    obtain ⟨g, rfl, _⟩ := hg (by omega)
    exact ⟨g, c2, rfl, ho, hbb⟩
  have HC0 : Hid (∀ W', Below w.heap.size w W' → W'.cell? ⟨D, 0, none⟩ = some (.pointer (some ⟨L.d, 0, none⟩))) := fun W' hbl => (hbl.cell (p := ⟨D, 0, none⟩) hDlt).trans c0
  have hap : a ≤ 1024 := by omega
  obtain ⟨K, hK⟩ : ∃ K, pgs n = K := ⟨_, rfl⟩
  rw [hK] at hk8 H88 HLEN HRD ⊢
  obtain ⟨i23, hi, hz0, hz1, hz2⟩ := info_parts info23
  clear h hd hX ha hin hm hK c0 c1
  go_enter Try.func99, Try.ntmps99
  go_wp2_with (fail)
  (with_reducible refine (H88.out w).mono ?_)
  rintro e w1 ⟨rfl, rfl⟩
  go_wp2
  go_loopw [8, 18] (fun v i wr => ∃ k : Nat, k ≤ K ∧ i = .int .i64 k ∧ ∃ vs, PgI w wr v vs (fun i => pageF f (a + i)) k) (fun _ i _ => K - (intOf i).toNat)
  case atStart => exact ⟨0, Nat.zero_le _, rfl, [], ⟨World.ownsRow_nil _ _ _ _, fun i hi => absurd hi (by omega), fun i hi => absurd hi (by omega), Below.refl _ _⟩⟩
  case round =>
    obtain ⟨k, hk, rfl, vs, hI⟩ := hrel
    have HI := Lib.hid hI
    have HBW := Lib.hid hI.below
    clear hI
    by_cases hlt : k < K
    · have c0 := HC0.out wr HBW.out
      have t0 : IntKind.i64.wrap ((a : Int) + (k : Int)) = (a : Int) + (k : Int) := IntWalk.i64_in _ (by omega)
      have HPW : Hid (∀ q, Calls Try.prog 116 #[.pointer (some ⟨D, 0, none⟩), .int .i64 b, .int .i64 j] (wr.drewN q) fun e w' => e = .returned (.int .i64 (a : Nat)) ∧ ∃ q2, w' = (wr.drewN q).drewN q2) :=
        fun q => HPG.out _ (HBW.out.trans ((Below.drewN (Below.refl _ _) q).mono HBW.out.size))
      have HRW : Hid (∀ W', Below wr.heap.size wr W' → Calls Try.prog 115 #[.pointer (some ⟨L.d, 0, none⟩), .int .i64 ((a : Int) + (k : Int))] W' fun e w' => ∃ g c, e = .returned (.tuple #[.slice (some ⟨g, 0, none⟩) 64 c, .nilIface]) ∧ w'.ownsRow W'.heap.size 5 1 (.slice (some ⟨g, 0, none⟩) 64 c) 64 (kcells .u8 (pageF f (a + k))) ∧ Below W'.heap.size W' w') :=
        fun W' hbl => HRD.out W' k (HBW.out.trans (hbl.mono HBW.out.size)) hlt
      go_wp2_with (fail)
      go_region_held3 (fun w' => w'.cell? ⟨D, 0, none⟩ = some (.pointer (some ⟨L.d, 0, none⟩))) (first | go_keep | exact HC0.out _ (HBW.out.trans (hB9.mono HBW.out.size))) (first
        | (go_at_call 116; refine (HPG.out _ (HBW.out.trans (Below.mono (by repeat (first | exact Below.refl _ _ | refine Below.drew ?_ | refine Below.drewN ?_ _)) HBW.out.size))).mono ?_; rintro e wp ⟨rfl, q1, rfl⟩)
        | (go_at_call 115; refine (HRW.out _ (by repeat (first | exact Below.refl _ _ | refine Below.drew ?_ | refine Below.drewN ?_ _))).mono ?_; rintro e we ⟨g, cc, rfl, hoe, hbe⟩; have hB9 := (Below.drewN (Below.refl wr.heap.size wr) _).trans hbe))
      have HI9 := Lib.hid (HI.out.later hB9)
      have HOE : Hid (we.ownsRow w.heap.size 5 1 (.slice (some ⟨g, 0, none⟩) 64 cc) 64 (kcells .u8 (pageF f (a + k)))) := own_low hoe (Nat.le_trans HBW.out.size (by repeat (first | exact Nat.le_refl _ | rfl)))
      have HLK := Lib.hid (HLEN.out k hlt)
      clear hoe hbe hB9 c0 t0
      go_wp2_with (at_builtin; refine wpList_append_own _ rfl _ _ 44 rfl w.heap.size 22 i23 (.slice none 0 0) 1 24 Try.underlying44 hi hz0 hz1 hz2 rfl (by omega) _ _ _ rfl (own_below HI9.out.own ((Below.refl _ _).alloc (Nat.le_refl _) _)) ⟨we.heap.size, 0, none⟩ 1 1 [.slice (some ⟨g, 0, none⟩) 64 cc] rfl rfl (cell_one_new _ _ _) (by simp [Value.oneCell']) (by unfold maxLen; omega) (by omega) (by have := HI9.out.below.size; simp; omega) ?_)
      intro v' w8 hown8 hgrow8 _
      have HI8 := Lib.hid (HI9.out.push HOE.out HLK.out hown8 hgrow8)
      clear hown8 hgrow8
      go_wp2
      go_roundw
      case rel => exact ⟨k + 1, by omega, by go_num, _, HI8.out⟩
      case measure => simp [intOf]; omega
    · have hkn : k = K := by omega
      subst hkn
      obtain ⟨A', c', rfl, h1, h2, _⟩ := own_read HI.out.own
      have HR := Lib.hid (HI.out.rd X HX.out)
      have HH := Lib.hid (And.intro h1 h2)
      clear h1 h2
      go_wp2
      go_ret2
      exact ⟨A', c', rfl, HH.out.1, HH.out.2, HR.out, HBW.out⟩
end
end Go.Proofs.Ytjdknddnanopaaa

/-
  Params: legal.
-/
namespace Go.Proofs.Ytjdknddnanopaaa
open Go.RowKit
set_option linter.unusedVariables false

theorem legal_length {sp : List Par} {v : List Int} (h : v.length = sp.length) : (legal sp v).length = sp.length := by simp [legal, h]
theorem legal_get {sp : List Par} {v : List Int} {k : Nat} {p : Par} {x : Int} (hp : sp[k]? = some p) (hx : v[k]? = some x) : (legal sp v)[k]? = some (legalP p x) := by
  unfold legal
  rw [List.getElem?_zipWith, hp, hx]
/-- So many values have been looked at. -/
def legTo (sp : List Par) (v : List Int) (k : Nat) : List Int := (legal sp v).take k ++ v.drop k
theorem legTo_zero (sp : List Par) (v : List Int) : legTo sp v 0 = v := by simp [legTo]
theorem legTo_all {sp : List Par} {v : List Int} {n : Nat} (h : v.length = n) (hs : sp.length = n) : legTo sp v n = legal sp v := by
  unfold legTo
  rw [List.take_of_length_le (by rw [legal_length (by omega)]; omega), List.drop_of_length_le (by omega), List.append_nil]
theorem legTo_length {sp : List Par} {v : List Int} {n k : Nat} (h : v.length = n) (hs : sp.length = n) (hk : k ≤ n) : (legTo sp v k).length = n := by
  unfold legTo
  rw [List.length_append, List.length_take, List.length_drop, legal_length (by omega)]
  omega
theorem legTo_get {sp : List Par} {v : List Int} {n k : Nat} {x : Int} (h : v.length = n) (hs : sp.length = n) (hk : k ≤ n) (hx : v[k]? = some x) : (legTo sp v k)[k]? = some x := by
  unfold legTo
  rw [List.getElem?_append_right (by rw [List.length_take]; omega), List.length_take, legal_length (by omega), List.getElem?_drop, show k + (k - min k sp.length) = k by omega]
  exact hx
theorem legTo_step {sp : List Par} {v : List Int} {n k : Nat} {p : Par} {x : Int} (h : v.length = n) (hs : sp.length = n) (hp : sp[k]? = some p) (hx : v[k]? = some x) : (legTo sp v k).set k (legalP p x) = legTo sp v (k + 1) := by
  have hk : k < n := by rw [← h]; exact (List.getElem?_eq_some_iff.1 hx).1
  have hl : ((legal sp v).take k).length = k := by rw [List.length_take, legal_length (by omega)]; omega
  unfold legTo
  rw [List.set_append_right _ _ (by omega), hl, Nat.sub_self, drop_cons_get v k x hx, List.set_cons_zero, take_snoc_get _ k _ (legal_get hp hx), List.append_assoc]
  rfl
theorem set_same9 {l : List Int} {k : Nat} {x : Int} (h : l[k]? = some x) : l.set k x = l := by
  apply List.ext_getElem?
  intro i
  rw [List.getElem?_set]
  by_cases e : k = i
  · subst e
    rw [if_pos rfl, if_pos (List.getElem?_eq_some_iff.1 h).1, h]
  · rw [if_neg e]

set_option maxRecDepth 100000 in
set_option maxHeartbeats 8000000 in
theorem legal_any {w : World} {D : Nat} {As : Option Addr} {n cs : Nat} (c3 : w.cell? ⟨D, 3, none⟩ = some (.slice As n cs)) (sp : List Par) (hA : Rd w w.heap.size As (pcells sp)) (hn : sp.length = n) (n1 : 1 ≤ n) (n2 : n ≤ 48) (hcs : n ≤ cs) (hcm : cs ≤ maxLen)
    (A : Option Addr) (c : Nat) (v : List Int) (hV : Rd w w.heap.size A (icells v)) (hv : v.length = n) :
    Calls Try.prog 101 #[.pointer (some ⟨D, 0, none⟩), .slice A n c] w fun e w' => ∃ v', e = .returned v' ∧ w'.ownsRow w.heap.size 3 1 v' n (icells (legal sp v)) ∧ Below w.heap.size w w' := by
  unfold maxLen at hcm
  have hDlt := World.block_lt_of_cell? w _ c3
  have HCL := Lib.hid (clone3_any A n c w.heap.size v w hV (Nat.le_refl _) hv (by omega))
  have HA := Lib.hid hA
  have HN := Lib.hid hn
  have HV := Lib.hid hv
  have HC3 : Hid (∀ W', Below w.heap.size w W' → W'.cell? ⟨D, 3, none⟩ = some (.slice As n cs)) := fun W' hbl => (hbl.cell (p := ⟨D, 3, none⟩) hDlt).trans c3
  clear hA hn hV hv c3
  go_enter Try.func101, Try.ntmps101
  go_wp2_with (fail)
  (with_reducible refine HCL.out.mono ?_)
  rintro e w1 ⟨v', rfl, ho, hb⟩
  obtain ⟨A', c', rfl, h1, h2, hg⟩ := own_form ho
  obtain ⟨g, rfl, hg1, hg2⟩ := hg (by omega)
  have HO1 := Lib.hid ho
  have HB1 := Lib.hid hb
  have c3 := HC3.out w1 hb
  unfold maxLen at h2
  clear ho hb
  go_wp2
  go_loopw [15] (fun i wr => ∃ k : Nat, k ≤ n ∧ i = .int .i64 k ∧ wr.ownsRow w.heap.size 3 1 (.slice (some ⟨g, 0, none⟩) n c') n (icells (legTo sp v k)) ∧ Below w.heap.size w wr) (fun i _ => n - (intOf i).toNat)
  case atStart => exact ⟨0, Nat.zero_le _, rfl, by rw [legTo_zero]; exact HO1.out, HB1.out⟩
  case round =>
    obtain ⟨k, hk, rfl, hO, hB⟩ := hrel
    have HO := Lib.hid hO
    have HB := Lib.hid hB
    clear hO hB
    by_cases hlt : k < n
    · obtain ⟨p, hp⟩ := getElem?_of_lt (l := sp) (k := k) (by rw [HN.out]; exact hlt)
      obtain ⟨x, hx⟩ := getElem?_of_lt (l := v) (k := k) (by rw [HV.out]; exact hlt)
      obtain ⟨b, off, rfl, hbl, e0, e1, e2⟩ := (RdX.of (X := fun _ => False) (HA.out.below HB.out (Nat.le_refl _)) HB.out.size (fun _ h => h.elim)).par hp
      have HP := Lib.hid hp
      have HXX := Lib.hid hx
      obtain ⟨W, hW⟩ : ∃ W, wr.alloc (.cells #[.int .i64 p.lo, .int .i64 p.hi, .int .i64 p.df] 141) = W := ⟨_, rfl⟩
      have HBW : Hid (Below wr.heap.size wr W) := by rw [← hW]; exact (Below.refl _ _).alloc (Nat.le_refl _) _
      have HOW : Hid (W.ownsRow w.heap.size 3 1 (.slice (some ⟨g, 0, none⟩) n c') n (icells (legTo sp v k))) := own_below HO.out HBW.out
      have d0 : W.cell? ⟨wr.heap.size, 0, none⟩ = some (.int .i64 p.lo) := by rw [← hW, World.cell?_alloc_new]; rfl
      have d1 : W.cell? ⟨wr.heap.size, 1, none⟩ = some (.int .i64 p.hi) := by rw [← hW, World.cell?_alloc_new]; rfl
      have d2 : W.cell? ⟨wr.heap.size, 2, none⟩ = some (.int .i64 p.df) := by rw [← hW, World.cell?_alloc_new]; rfl
      have d3 : W.cell? ⟨g, k, none⟩ = some (.int .i64 x) := by
        rw [HOW.out.cellAt k (by omega)]
        simp [icells, legTo_get HV.out HN.out hk hx]
      have z3 : W.frozen? ⟨g, k, none⟩ = false := HOW.out.frozenAt _
      have HBX : Hid (Below w.heap.size w W) := HB.out.trans (HBW.out.mono HB.out.size)
      have HST : Hid ((legTo sp v k).set k (legalP p x) = legTo sp v (k + 1)) := legTo_step HV.out HN.out hp hx
      have HW87 : Hid (∀ q, Calls Try.prog 109 #[.int .i64 x, .int .i64 p.lo, .int .i64 p.hi] (W.drewN q) fun e w' => e = .returned (.bool (inPar p x)) ∧ w' = W.drewN q) := fun q => within_q x p.lo p.hi (W.drewN q)
      clear hp hx
      by_cases hin : inPar p x = true
      · have HS2 : Hid (legTo sp v (k + 1) = legTo sp v k) := by
          rw [Hid, ← HST.out]
          unfold legalP
          rw [if_pos hin]
          exact set_same9 (legTo_get HV.out HN.out hk HXX.out)
        rw [hin] at HW87
        clear hin
        go_wp2
        go_quiet ((go_at_call 109; with_reducible exact Calls.quiet_of_same (HW87.out _)))
        go_wp2
        go_roundw
        case rel => exact ⟨k + 1, by omega, by go_num, by rw [HS2.out]; exact own_below HOW.out (Below.drewN (Below.refl _ _) _), HBX.out.trans ((Below.drewN (Below.refl _ _) _).mono HBX.out.size)⟩
        case measure => simp [intOf]; omega
      · have hin' : inPar p x = false := by simpa using hin
        have HS2 : Hid (legTo sp v (k + 1) = (legTo sp v k).set k p.df) := by
          rw [Hid, ← HST.out]
          unfold legalP
          rw [if_neg hin]
        rw [hin'] at HW87
        have HOS : Hid (∀ q, ((W.drewN q).setCell ⟨g, k, none⟩ (.int .i64 p.df)).ownsRow w.heap.size 3 1 (.slice (some ⟨g, 0, none⟩) n c') n (icells (legTo sp v (k + 1))) ∧ Below w.heap.size w ((W.drewN q).setCell ⟨g, k, none⟩ (.int .i64 p.df))) := fun q => by
          have ho := own_below HOW.out (Below.drewN (Below.refl W.heap.size W) q)
          have h5 := (ho.stored k (.int .i64 p.df)).1
          rw [HS2.out]
          refine ⟨?_, (HBX.out.trans ((Below.drewN (Below.refl _ _) q).mono HBX.out.size)).setCell (p := ⟨g, k, none⟩) hg1 _⟩
          have e : icells ((legTo sp v k).set k p.df) = (icells (legTo sp v k)).set k (.int .i64 p.df) := by simp [icells]
          rw [e]
          exact h5
        clear hin hin'
        go_wp2
        go_quiet ((go_at_call 109; with_reducible exact Calls.quiet_of_same (HW87.out _)))
        go_wp2
        go_roundw
        case rel => exact ⟨k + 1, by omega, by go_num, (HOS.out _).1, (HOS.out _).2⟩
        case measure => simp [intOf]; omega
    · have hkn : k = n := by omega
      subst hkn
      have HF : Hid (wr.ownsRow w.heap.size 3 1 (.slice (some ⟨g, 0, none⟩) k c') k (icells (legal sp v))) := by rw [Hid, ← legTo_all HV.out HN.out]; exact HO.out
      go_wp2
      go_ret
      exact ⟨_, rfl, HF.out, HB.out⟩
end Go.Proofs.Ytjdknddnanopaaa

/-
  Params: a store that is being made.
-/
namespace Go.Proofs.Ytjdknddnanopaaa
open Go.RowKit
set_option linter.unusedVariables false

theorem own_rdx {X : Nat → Prop} {w : World} {base e size n c : Nat} {A : Option Addr} {xs : List Value} (h : w.ownsRow base e size (.slice A n c) n xs) (hX : ∀ b, (Value.slice A n c).ownBlock = some b → ¬ X b) : RdX X w A xs := by
  intro hne
  rcases h.2 with ⟨hv, hn⟩ | ⟨g, cap, cur, hv, hb, hg, hnc, hcm, hcs, htake⟩
  · have := h.1
    rw [hn] at this
    simp at this
    exact absurd this hne
  · injection hv with e1 e2 e3
    subst e1
    refine ⟨g, 0, rfl, (Array.getElem?_eq_some_iff.1 hg).1, hX g rfl, fun j u hu => ?_⟩
    rw [Nat.zero_add, cell_of_row w g j cur e (0, 0) hg]
    rw [← htake, List.getElem?_take] at hu
    split at hu
    · simpa using hu
    · cases hu

def opCells (S : Sc) (d : Nat) (s : St) : List Value := (S.cells d s).set 5 (.slice none 0 0)
/-- A store that is being made. -/
structure OpAt (w wr : World) (L : Lc) (S : Sc) (s : St) : Prop where
  below : Below w.heap.size w wr
  own : wr.ownsRow w.heap.size 163 17 (.slice (some ⟨S.D, 0, none⟩) 1 1) 1 (opCells S L.d s)
  sp : wr.ownsRow w.heap.size 141 3 (.slice S.As s.spec.length S.cs) s.spec.length (pcells s.spec)
  sv : wr.ownsRow w.heap.size 3 1 (.slice S.Av s.saved.length S.cv) s.saved.length (icells s.saved)
  p0 : s.pages = [] ∧ S.Ap = none ∧ S.cp = 0
  v0 : s.values = [] ∧ S.Au = none ∧ S.cu = 0
  t0 : s.staged = []

section
variable {w0 w wr : World} {L : Lc} {S : Sc} {f : Fl} {s : St}

theorem OpAt.later (h : OpAt w wr L S s) {w' : World} (hb : Below wr.heap.size wr w') : OpAt w w' L S s :=
  ⟨h.below.trans (hb.mono h.below.size), own_below h.own hb, own_below h.sp hb, own_below h.sv hb, h.p0, h.v0, h.t0⟩
theorem OpAt.row (h : OpAt w wr L S s) (j : Nat) (u : Value) (hj : (opCells S L.d s)[j]? = some u) : wr.cell? ⟨S.D, j, none⟩ = some u := by
  have hlt : j < 17 := by
    have := (List.getElem?_eq_some_iff.1 hj).1
    simpa [opCells, Sc.cells] using this
  rw [h.own.cellAt j (by omega)]
  exact hj
theorem OpAt.fz (h : OpAt w wr L S s) (j : Nat) : wr.frozen? ⟨S.D, j, none⟩ = false := h.own.frozenAt _
theorem OpAt.lt (h : OpAt w wr L S s) : w.heap.size ≤ S.D ∧ S.D < wr.heap.size := h.own.lt _ rfl
theorem OpAt.cell (h : OpAt w wr L S s) (j : Nat) (u : Value) (S' : Sc) (s' : St) (e0 : S'.D = S.D) (hc : opCells S' L.d s' = (opCells S L.d s).set j u)
    (hsp : S'.As = S.As ∧ S'.cs = S.cs ∧ s'.spec = s.spec) (hsv : wr.ownsRow w.heap.size 3 1 (.slice S'.Av s'.saved.length S'.cv) s'.saved.length (icells s'.saved)) (p0 : s'.pages = [] ∧ S'.Ap = none ∧ S'.cp = 0) (v0 : s'.values = [] ∧ S'.Au = none ∧ S'.cu = 0) (t0 : s'.staged = []) :
    OpAt w (wr.setCell ⟨S.D, j, none⟩ u) L S' s' := by
  have h1 := (h.own.stored j u)
  obtain ⟨a1, a2, a3⟩ := hsp
  refine ⟨h.below.setCell (p := ⟨S.D, j, none⟩) h.lt.1 _, ?_, ?_, ?_, p0, v0, t0⟩
  · rw [hc, e0]
    exact h1.1
  · rw [a1, a2, a3]
    exact kept_of h.sp h1.2 (fun g hg e => own_ne_own h.own h.sp (by decide) g e hg)
  · exact kept_of hsv h1.2 (fun g hg e => own_ne_own h.own hsv (by decide) g e hg)

/-- The store is made. -/
theorem OpAt.done (h : OpAt w wr L S s) (hf : FlAt w0 w L f) (hpE : RdX L.E w L.Ap (kcells .u8 f.picks)) {w' : World} {g c n : Nat} (hn : s.saved.length = n) (ho : w'.ownsRow wr.heap.size 3 1 (.slice (some ⟨g, 0, none⟩) n c) n (icells s.saved)) (hb : Below wr.heap.size wr w') :
    StAt w0 (w'.setCell ⟨S.D, 5, none⟩ (.slice (some ⟨g, 0, none⟩) n c)) L { S with G := g, cg := c } f { s with staged := s.saved } ∧ Below w.heap.size w (w'.setCell ⟨S.D, 5, none⟩ (.slice (some ⟨g, 0, none⟩) n c)) := by
  subst hn
  obtain ⟨W, hW⟩ : ∃ W, w'.setCell ⟨S.D, 5, none⟩ (.slice (some ⟨g, 0, none⟩) s.saved.length c) = W := ⟨_, rfl⟩
  have h' := h.later hb
  have hD := h.lt
  have hg : wr.heap.size ≤ g ∧ g < w'.heap.size := ho.lt _ rfl
  have hgD : g ≠ S.D := by have := hg.1; omega
  have hbW : Below w.heap.size w W := by rw [← hW]; exact h'.below.setCell (p := ⟨S.D, 5, none⟩) hD.1 _
  have hst := h'.own.stored 5 (.slice (some ⟨g, 0, none⟩) s.saved.length c)
  rw [hW] at hst ⊢
  have ho2 : W.ownsRow wr.heap.size 3 1 (.slice (some ⟨g, 0, none⟩) s.saved.length c) s.saved.length (icells s.saved) := kept_of ho hst.2 (fun g' hg' e => own_ne_own h'.own ho (by decide) g' e hg')
  have hsp2 : W.ownsRow w.heap.size 141 3 (.slice S.As s.spec.length S.cs) s.spec.length (pcells s.spec) := kept_of h'.sp hst.2 (fun g hg e => own_ne_own h'.own h'.sp (by decide) g e hg)
  have hsv2 : W.ownsRow w.heap.size 3 1 (.slice S.Av s.saved.length S.cv) s.saved.length (icells s.saved) := kept_of h'.sv hst.2 (fun g hg e => own_ne_own h'.own h'.sv (by decide) g e hg)
  have hfl := hf.later hbW
  have hl1 := hf.ld
  have hl2 := hf.bi.2
  have hl3 := hf.bw.2
  have hXn : ∀ b, w.heap.size ≤ b → b ≠ S.D → b < wr.heap.size → ¬ Own L { S with G := g, cg := c } b := by
    intro b h1 h2 h3 hx
    have h4 := hg.1
    rcases hx with (e | e | e | e | e) | e
    · omega
    · omega
    · omega
    · exact h2 e
    · have e' : b = g := e
      omega
    · have := hf.eb b e
      omega
  have hrow : ∀ j u, (({ S with G := g, cg := c } : Sc).cells L.d { s with staged := s.saved })[j]? = some u → W.cell? ⟨S.D, j, none⟩ = some u := by
    intro j u hj
    have hlt : j < 17 := by
      have := (List.getElem?_eq_some_iff.1 hj).1
      simpa [Sc.cells] using this
    rw [hst.1.cellAt j (by omega), ← hj]
    unfold opCells
    rw [List.set_set]
    rfl
  obtain ⟨_, _, hcv, q1, q2, _⟩ := own_read ho2
  injection hcv with _ _ hcc
  subst hcc
  obtain ⟨_, _, hcv, r1, r2, _⟩ := own_read hsp2
  injection hcv with _ _ hcc
  subst hcc
  obtain ⟨_, _, hcv, s1, s2, _⟩ := own_read hsv2
  injection hcv with _ _ hcc
  subst hcc
  have hspb : ∀ b, (Value.slice S.As s.spec.length S.cs).ownBlock = some b → w.heap.size ≤ b ∧ b < wr.heap.size ∧ b ≠ S.D := fun b hb' =>
    ⟨(h.sp.lt b hb').1, (h.sp.lt b hb').2, fun e => own_ne_own h.own h.sp (by decide) b (by rw [e]; rfl) hb'⟩
  have hsvb : ∀ b, (Value.slice S.Av s.saved.length S.cv).ownBlock = some b → w.heap.size ≤ b ∧ b < wr.heap.size ∧ b ≠ S.D := fun b hb' =>
    ⟨(h.sv.lt b hb').1, (h.sv.lt b hb').2, fun e => own_ne_own h.own h.sv (by decide) b (by rw [e]; rfl) hb'⟩
  refine ⟨⟨hfl, Nat.le_trans hf.below.size hD.1, by have := hst.1.lt _ rfl; exact this.2, by simp only; omega, by simp only; omega, by simp only; omega, fun e => hgD e.symm, by simp only; have := hg.1; omega, by simp only; have := hg.1; omega, by simp only; have := hg.1; omega, hrow, fun j => hst.1.frozenAt j, own_low ho2 (Nat.le_trans hf.below.size h.below.size), ?_, ?_⟩, hbW⟩
  · refine ⟨own_rdx hsp2 (fun b hb' => hXn b (hspb b hb').1 (hspb b hb').2.2 (hspb b hb').2.1), r1, r2, own_rdx hsv2 (fun b hb' => hXn b (hsvb b hb').1 (hsvb b hb').2.2 (hsvb b hb').2.1), s1, s2, ?_, ?_, ?_, ?_, ?_, ?_⟩
    · simp only [h.p0.1]; exact RdP.nil
    · simp only [h.p0.1]; exact Nat.zero_le _
    · simp only [h.p0.2.2]; exact Nat.zero_le _
    · simp only [h.v0.1]; exact RdX.nil
    · simp only [h.v0.1]; exact Nat.zero_le _
    · simp only [h.v0.2.2]; exact Nat.zero_le _
  · intro hx
    obtain ⟨b, off, e, hlt, n1, n2, n3, hc⟩ := hf.pk hx
    refine ⟨b, off, e, Nat.lt_of_lt_of_le hlt hbW.size, ?_, fun j u hu => (hbW.cell (p := ⟨b, off + j, none⟩) hlt).trans (hc j u hu)⟩
    have h4 := hg.1
    rintro ((e | e | e | e | e) | e')
    · exact n1 e
    · exact n2 e
    · exact n3 e
    · have e' : b = S.D := e
      omega
    · have e' : b = g := e
      have := h.below.size
      omega
    · obtain ⟨b9, off9, e9, _, hn9, _⟩ := hpE hx
      rw [e] at e9
      injection e9 with e9
      injection e9 with e9
      subst e9
      exact hn9 e'
end
end Go.Proofs.Ytjdknddnanopaaa

/-
  Params: Open.
-/
namespace Go.Proofs.Ytjdknddnanopaaa
open Go.RowKit
set_option linter.unusedVariables false

theorem own_box {w : World} {base e size : Nat} {cs : Array Value} {xs : List Value} (hc : cs.toList = xs) (hl : xs.length = size) (hb : base ≤ w.heap.size) :
    (w.alloc (.cells cs e)).ownsRow base e size (.slice (some ⟨w.heap.size, 0, none⟩) 1 1) 1 xs := by
  refine ⟨by omega, .inr ⟨w.heap.size, 1, cs, rfl, hb, ?_, Nat.le_refl _, by unfold maxLen; omega, ?_, ?_⟩⟩
  · show (w.heap.push _)[w.heap.size]? = _
    simp
  · rw [← Array.length_toList, hc]; omega
  · rw [hc, List.take_of_length_le (by omega)]

theorem openE_zero {f : Fl} {first blocks : Int} {sp : List Par} (h : openE f first blocks sp = 0) : f.down = false ∧ 2 ≤ blocks ∧ blocks ≤ 16 ∧ 0 ≤ first ∧ first ≤ (f.wear.length : Int) - blocks ∧ 1 ≤ sp.length ∧ sp.length ≤ 48 ∧ sp.any badP = false ∧ pgs sp.length ≤ f.pg := by
  unfold openE at h
  split at h
  · cases h
  split at h
  · cases h
  split at h
  · cases h
  split at h
  · cases h
  split at h
  · cases h
  split at h
  · cases h
  rename_i a b c d e g
  exact ⟨by simpa using a, by omega, by omega, by omega, by omega, by omega, by omega, (Bool.not_eq_true _).mp e, by omega⟩

/-- What the search leaves alone. -/
structure Kp (a c : St) : Prop where
  f : c.first = a.first
  b : c.blocks = a.blocks
  s : c.spec = a.spec
  l : a.saved.length = a.spec.length → c.saved.length = a.spec.length
theorem Kp.refl (s : St) : Kp s s := ⟨rfl, rfl, rfl, fun h => h⟩
theorem Kp.trans {a b c : St} (h : Kp a b) (k : Kp b c) : Kp a c := ⟨k.f.trans h.f, k.b.trans h.b, k.s.trans h.s, fun e => by rw [← h.s]; exact k.l (by rw [h.s]; exact h.l e)⟩
theorem openStep_kp (f : Fl) (s : St) (b j : Nat) : Kp s (openStep f s b j) := by
  unfold openStep
  simp only
  split
  · exact .refl s
  · rename_i h
    exact ⟨rfl, rfl, rfl, fun _ => legal_length (by omega)⟩
theorem openRow_succ (f : Fl) (b : Nat) (s : St) (n : Nat) : openRow f b s (n + 1) = openStep f (openRow f b s n) b n := by
  unfold openRow
  rw [List.range_succ, List.foldl_append]
  rfl
theorem openAll_succ (f : Fl) (n : Nat) (s : St) (m : Nat) : openAll f n s (m + 1) = openRow f m (openAll f n s m) n := by
  unfold openAll
  rw [List.range_succ, List.foldl_append]
  rfl
theorem openRow_kp (f : Fl) (b : Nat) (s : St) (n : Nat) : Kp s (openRow f b s n) := by
  induction n with
  | zero => exact .refl s
  | succ n ih => rw [openRow_succ]; exact ih.trans (openStep_kp _ _ _ _)
theorem openAll_kp (f : Fl) (n : Nat) (s : St) (m : Nat) : Kp s (openAll f n s m) := by
  induction m with
  | zero => exact .refl s
  | succ m ih => rw [openAll_succ]; exact ih.trans (openRow_kp _ _ _ _)
theorem initS_len (fi bl : Nat) (sp : List Par) : (initS fi bl sp).saved.length = (initS fi bl sp).spec.length := by simp [initS]
/-- A slot whose record is not taken. -/
theorem openStep_no {f : Fl} {s : St} {b j : Nat} {d : Int × List Int × Int} (hd : decP (pagesF f (pageS s f b j) s.k) = d) (h : d.2.2 ≠ 0 ∨ d.2.1.length ≠ s.spec.length ∨ d.1 ≤ s.seq) : openStep f s b j = s := by
  unfold openStep
  rw [hd]
  exact if_pos h
theorem openStep_yes {f : Fl} {s : St} {b j : Nat} {d : Int × List Int × Int} (hd : decP (pagesF f (pageS s f b j) s.k) = d) (h : ¬ (d.2.2 ≠ 0 ∨ d.2.1.length ≠ s.spec.length ∨ d.1 ≤ s.seq)) : openStep f s b j = { s with seq := d.1, block := b, slot := j, saved := legal s.spec d.2.1 } := by
  unfold openStep
  rw [hd]
  exact if_neg h
theorem pagesF_get {f : Fl} {a n i : Nat} {p : List Int} (h : (pagesF f a n)[i]? = some p) : p = pageF f (a + i) := by
  unfold pagesF at h
  have hi : i < n := by have := (List.getElem?_eq_some_iff.1 h).1; simpa using this
  rw [List.getElem?_map, List.getElem?_range hi] at h
  injection h with h
  exact h.symm
theorem pagesF_bytes {f : Fl} (hf : f.ok) {a n : Nat} : ∀ p ∈ pagesF f a n, Bytes p := by
  intro p hp
  obtain ⟨i, hi⟩ := List.mem_iff_getElem?.1 hp
  rw [pagesF_get hi]
  exact pageF_bytes hf _
theorem pagesF_len (f : Fl) (a n : Nat) : (pagesF f a n).length = n := by simp [pagesF]

theorem OpAt.qbs {w wr : World} {L : Lc} {S : Sc} {s : St} (h : OpAt w wr L S s) (q : Int) (b : Nat) (j : Int) :
    OpAt w (((wr.setCell ⟨S.D, 6, none⟩ (.int .i64 q)).setCell ⟨S.D, 7, none⟩ (.int .i64 b)).setCell ⟨S.D, 8, none⟩ (.int .i64 j)) L S { s with seq := q, block := b, slot := j } ∧
    wr.grownBy (((wr.setCell ⟨S.D, 6, none⟩ (.int .i64 q)).setCell ⟨S.D, 7, none⟩ (.int .i64 b)).setCell ⟨S.D, 8, none⟩ (.int .i64 j)) (some S.D) := by
  have a1 := h.cell 6 (.int .i64 q) S { s with seq := q } rfl rfl ⟨rfl, rfl, rfl⟩ h.sv h.p0 h.v0 h.t0
  have a2 := a1.cell 7 (.int .i64 b) S { s with seq := q, block := b } rfl rfl ⟨rfl, rfl, rfl⟩ a1.sv h.p0 h.v0 h.t0
  have a3 := a2.cell 8 (.int .i64 j) S { s with seq := q, block := b, slot := j } rfl rfl ⟨rfl, rfl, rfl⟩ a2.sv h.p0 h.v0 h.t0
  exact ⟨a3, ((h.own.stored 6 _).2.trans (a1.own.stored 7 _).2).trans (a2.own.stored 8 _).2⟩

/-- What Open leaves. -/
def OpenR (w0 w : World) (L : Lc) (f : Fl) (s : St) (e : Ending) (w' : World) : Prop :=
  ∃ S, e = .returned (.tuple #[.pointer (some ⟨S.D, 0, none⟩), .nilIface]) ∧ StAt w0 w' L S f s ∧ Below w.heap.size w w' ∧ w.heap.size ≤ S.D ∧ w.heap.size ≤ S.G

section
variable {w0 w : World} {L : Lc} {f : Fl}

theorem open_no (h : FlAt w0 w L f) (first blocks : Int) (hf1 : I64 first) (hb1 : I64 blocks) (A : Option Addr) (n c : Nat) (sp : List Par) (hA : Rd w w.heap.size A (pcells sp)) (hn : sp.length = n) (hnc : n ≤ c) (hcm : c ≤ maxLen) (hok : ∀ p ∈ sp, p.ok) (he : openE f first blocks sp ≠ 0) :
    Calls Try.prog 54 #[.pointer (some ⟨L.d, 0, none⟩), .int .i64 first, .int .i64 blocks, .slice A n c] w fun e w' => e = .returned (.tuple #[.pointer none, errV (openE f first blocks sp)]) ∧ Below w.heap.size w w' := by
  have g2 := ne_err
  have HC := Lib.hid (check_any h first blocks hf1 hb1 A n c sp hA hn hnc hcm hok)
  have HE := Lib.hid (errV_ne he)
  rw [HE.out] at HC ⊢
  generalize openE f first blocks sp = k at *
  clear h hA hn hnc hcm hok he
  go_enter Try.func54, Try.ntmps54
  go_wp2_with (fail)
  (with_reducible refine HC.out.mono ?_)
  rintro e w1 ⟨rfl, hb⟩
  have HB := Lib.hid hb
  clear hb
  go_wp2
  go_ret2
  exact ⟨rfl, HB.out⟩

set_option maxRecDepth 100000 in
set_option maxHeartbeats 16000000 in
theorem open_yes (h : FlAt w0 w L f) (fi bl : Nat) (A : Option Addr) (n c : Nat) (sp : List Par) (hA : Rd w w.heap.size A (pcells sp)) (hn : sp.length = n) (hnc : n ≤ c) (hcm : c ≤ maxLen) (hok : ∀ p ∈ sp, p.ok) (he : openE f fi bl sp = 0) (hpE : RdX L.E w L.Ap (kcells .u8 f.picks)) :
    Calls Try.prog 54 #[.pointer (some ⟨L.d, 0, none⟩), .int .i64 fi, .int .i64 bl, .slice A n c] w (OpenR w0 w L f (openF f fi bl sp)) := by
  have g1 := ne_nil
  have g2 := ne_err
  obtain ⟨hd, b2, b16, f0, f1, n1, n48, hbad, hkp⟩ := openE_zero he
  have hw := h.ok.b2
  have HC := Lib.hid (check_any h fi bl (by unfold I64; omega) (by unfold I64; omega) A n c sp hA hn hnc hcm hok)
  rw [he, errV_zero] at HC
  rw [hn] at n1 n48 hkp
  unfold maxLen at hcm
  have H := Lib.hid h
  have HA := Lib.hid hA
  have HN := Lib.hid hn
  have HOK := Lib.hid hok
  have HD := Lib.hid hd
  have HPE := Lib.hid hpE
  clear hpE
  have HKP := Lib.hid hkp
  have hfw : fi + bl ≤ f.wear.length := by omega
  have HFW := Lib.hid hfw
  clear h hA hn hok he hd hbad hkp f1 hfw
  go_enter Try.func54, Try.ntmps54
  go_wp2_with (fail)
  (with_reducible refine HC.out.mono ?_)
  rintro e w1 ⟨rfl, hb⟩
  have HB1 := Lib.hid hb
  have HCL := Lib.hid (clonep_any A n c w1.heap.size sp w1 (HA.out.below hb (Nat.le_refl _) |>.more hb.size) (Nat.le_refl _) HN.out (by omega))
  clear hb
  go_wp2_with (fail)
  (with_reducible refine HCL.out.mono ?_)
  rintro e w2 ⟨v', rfl, ho, hb⟩
  obtain ⟨As, cs, rfl, hs1, hs2, _⟩ := own_form ho
  have HB2 : Hid (Below w.heap.size w w2) := HB1.out.trans (hb.mono HB1.out.size)
  have HSP : Hid (w2.ownsRow w.heap.size 141 3 (.slice As n cs) n (pcells sp)) := own_low ho HB1.out.size
  unfold maxLen at hs2
  clear ho hb
  obtain ⟨W, hW⟩ : ∃ W, w2.alloc (.cells #[.pointer (some ⟨L.d, 0, none⟩), .int .i64 fi, .int .i64 bl, .slice As n cs, .slice none 0 0, .slice none 0 0, .int .i64 0, .int .i64 0, .int .i64 (-1), .bool false, .slice none 0 0, .slice none 0 0, .int .i64 0, .int .i64 0, .int .i64 0, .bool false, .bool false] 163) = W := ⟨_, rfl⟩
  have HOP : Hid (OpAt w W L ⟨w2.heap.size, 0, 0, As, cs, none, 0, none, 0, none, 0⟩ { initS fi bl sp with saved := [] }) := by
    have hb := (Below.refl w2.heap.size w2).alloc (Nat.le_refl _) (.cells #[.pointer (some ⟨L.d, 0, none⟩), .int .i64 fi, .int .i64 bl, .slice As n cs, .slice none 0 0, .slice none 0 0, .int .i64 0, .int .i64 0, .int .i64 (-1), .bool false, .slice none 0 0, .slice none 0 0, .int .i64 0, .int .i64 0, .int .i64 0, .bool false, .bool false] 163)
    rw [← hW]
    refine ⟨HB2.out.trans (hb.mono HB2.out.size), own_box ?_ rfl HB2.out.size, ?_, World.ownsRow_nil _ _ _ _, ⟨rfl, rfl, rfl⟩, ⟨rfl, rfl, rfl⟩, rfl⟩
    · simp [opCells, Sc.cells, initS, HN.out]
    · simp only [initS, HN.out]
      exact own_below HSP.out hb
  have hDW : w2.heap.size < W.heap.size := HOP.out.lt.2
  obtain ⟨D, hD⟩ : ∃ D, w2.heap.size = D := ⟨_, rfl⟩
  rw [hD] at HOP hDW
  obtain ⟨i3, hi3, hz30, hz31, hz32⟩ := info_parts info3
  go_wp2
  go_loopw [37] (fun i wr => ∃ k : Nat, k ≤ n ∧ i = .int .i64 k ∧ ∃ Av cv, OpAt w wr L ⟨D, 0, 0, As, cs, Av, cv, none, 0, none, 0⟩ { initS fi bl sp with saved := (sp.map Par.df).take k }) (fun i _ => n - (intOf i).toNat)
  case atStart => exact ⟨0, Nat.zero_le _, rfl, none, 0, HOP.out⟩
  case round =>
    obtain ⟨k, hk, rfl, Av, cv, hO⟩ := hrel
    have HO := Lib.hid hO
    clear hO
    by_cases hlt : k < n
    · obtain ⟨p, hp⟩ := getElem?_of_lt (l := sp) (k := k) (by rw [HN.out]; exact hlt)
      obtain ⟨b, off, rfl, hbl, e0, e1, e2⟩ := (RdX.of (X := fun _ => False) (HA.out.below HO.out.below (Nat.le_refl _)) HO.out.below.size (fun _ h => h.elim)).par hp
      have HP := Lib.hid hp
      obtain ⟨V, hV⟩ : ∃ V, wr.alloc (.cells #[.int .i64 p.lo, .int .i64 p.hi, .int .i64 p.df] 141) = V := ⟨_, rfl⟩
      have HBV : Hid (Below wr.heap.size wr V) := by rw [← hV]; exact (Below.refl _ _).alloc (Nat.le_refl _) _
      have HOV := Lib.hid (HO.out.later HBV.out)
      have d2 : V.cell? ⟨wr.heap.size, 2, none⟩ = some (.int .i64 p.df) := by rw [← hV, World.cell?_alloc_new]; rfl
      have c4 := HOV.out.row 4 _ rfl
      have hlk : ((sp.map Par.df).take k).length = k := by rw [List.length_take, List.length_map, HN.out]; omega
      simp only [hlk] at c4
      have HSV : Hid (∀ W', Below V.heap.size V W' → W'.ownsRow w.heap.size 3 1 (.slice Av k cv) k (icells ((sp.map Par.df).take k))) := fun W' hb => by
        have := (HOV.out.later hb).sv
        simp only [hlk] at this
        exact this
      have HGR : Hid (∀ W' w9 v9, Below V.heap.size V W' → W'.grownBy w9 (Value.slice Av k cv).ownBlock → w9.ownsRow w.heap.size 3 1 v9 (k + 1) (icells ((sp.map Par.df).take k) ++ [.int .i64 p.df]) →
          (∃ A9 c9, v9 = .slice A9 (k + 1) c9 ∧ OpAt w (w9.setCell ⟨D, 4, none⟩ v9) L ⟨D, 0, 0, As, cs, A9, c9, none, 0, none, 0⟩ { initS fi bl sp with saved := (sp.map Par.df).take (k + 1) }) ∧ w9.cell? ⟨D, 4, none⟩ = some (.slice Av k cv) ∧ w9.frozen? ⟨D, 4, none⟩ = false) := by
        intro W' w9 v9 hb hg ho
        have hop := HOV.out.later hb
        have hsv := hop.sv
        simp only [hlk] at hsv
        have hown : w9.ownsRow w.heap.size 163 17 (.slice (some ⟨D, 0, none⟩) 1 1) 1 _ := kept_of hop.own hg (fun g hg e => own_ne_own hsv hop.own (by decide) g e hg)
        have hsp : w9.ownsRow w.heap.size 141 3 _ _ _ := kept_of hop.sp hg (fun g hg e => own_ne_own hsv hop.sp (by decide) g e hg)
        have hbel : Below w.heap.size w w9 := hop.below.grown hg hop.below.size (fun k hk => (hsv.lt k hk).1)
        obtain ⟨A9, c9, rfl, _⟩ := own_form ho
        have hp9 : (sp.map Par.df)[k]? = some p.df := by rw [List.getElem?_map, HP.out]; rfl
        have hlk1 : ((sp.map Par.df).take (k + 1)).length = k + 1 := by rw [List.length_take, List.length_map, HN.out]; omega
        have hc9 : icells ((sp.map Par.df).take k) ++ [.int .i64 p.df] = icells ((sp.map Par.df).take (k + 1)) := by
          rw [take_snoc_get _ k _ hp9, icells, icells, List.map_append]
          rfl
        rw [hc9] at ho
        have hop9 : OpAt w w9 L ⟨D, 0, 0, As, cs, Av, cv, none, 0, none, 0⟩ { initS fi bl sp with saved := (sp.map Par.df).take k } → True := fun _ => trivial
        have hst := hown.stored 4 (.slice A9 (k + 1) c9)
        refine ⟨⟨A9, c9, rfl, hbel.setCell (p := ⟨D, 4, none⟩) (hown.lt _ rfl).1 _, ?_, ?_, ?_, ⟨rfl, rfl, rfl⟩, ⟨rfl, rfl, rfl⟩, rfl⟩, ?_, hown.frozenAt _⟩
        · have h1 := hst.1
          have e : opCells ⟨D, 0, 0, As, cs, A9, c9, none, 0, none, 0⟩ L.d { initS fi bl sp with saved := (sp.map Par.df).take (k + 1) } = (opCells ⟨D, 0, 0, As, cs, Av, cv, none, 0, none, 0⟩ L.d { initS fi bl sp with saved := (sp.map Par.df).take k }).set 4 (.slice A9 (k + 1) c9) := by
            unfold opCells Sc.cells
            simp only [hlk1]
            rfl
          rw [e]
          exact h1
        · exact kept_of hsp hst.2 (fun g hg e => own_ne_own hown hsp (by decide) g e hg)
        · simp only [hlk1]
          exact kept_of ho hst.2 (fun g hg e => own_ne_own hown ho (by decide) g e hg)
        · rw [hown.cellAt 4 (by omega)]
          have := hlk
          simp only [opCells, Sc.cells, List.getElem?_set, this]
          rfl
      have hlt4 : D < V.heap.size := World.block_lt_of_cell? V _ c4
      have hlt2 : wr.heap.size < V.heap.size := World.block_lt_of_cell? V _ d2
      have x4 : (V.alloc (.cells #[.int .i64 p.df] 3)).cell? ⟨D, 4, none⟩ = some (.slice Av k cv) := (((Below.refl V.heap.size V).alloc (Nat.le_refl _) _).cell (p := ⟨D, 4, none⟩) hlt4).trans c4
      have x2 : (V.alloc (.cells #[.int .i64 p.df] 3)).cell? ⟨wr.heap.size, 2, none⟩ = some (.int .i64 p.df) := (((Below.refl V.heap.size V).alloc (Nat.le_refl _) _).cell (p := ⟨wr.heap.size, 2, none⟩) hlt2).trans d2
      clear hlk hp
      go_wp2
      clear e0 e1 e2
      go_region_law (refine step_append_rd rfl (.tmp 45) (.tmp 48) 35 rfl w.heap.size 3 i3 (.int .i64 0) 1 8 Try.underlying35 hi3 hz30 hz31 hz32 rfl (by omega) (.slice Av k cv) k (icells ((sp.map Par.df).take k)) rfl (HSV.out _ (by first | exact (Below.drew (Below.refl V.heap.size V)).alloc (Nat.le_refl _) _ | exact Below.drew ((Below.refl V.heap.size V).alloc (Nat.le_refl _) _))) (V.heap.size + 1) (some ⟨V.heap.size, 0, none⟩) 1 1 [.int .i64 p.df] rfl (by first | exact Rd.new V.drew _ _ _ rfl | exact (Rd.new V _ _ _ rfl).below (Below.drew (Below.refl _ _)) (by simp)) rfl (by simp [Value.oneCell']) (by unfold maxLen; omega) (by omega) (by have := HOV.out.below.size; simp; omega) ?_; intro v9 w9 hown9 hgrow9 _; obtain ⟨⟨A9, c9, rfl, hop9⟩, c49, z49⟩ := HGR.out _ _ _ (by first | exact (Below.drew (Below.refl V.heap.size V)).alloc (Nat.le_refl _) _ | exact Below.drew ((Below.refl V.heap.size V).alloc (Nat.le_refl _) _)) hgrow9 hown9)
      all_goals
        have HN9 := Lib.hid hop9
        clear hop9 hgrow9 hown9 c49 z49
        go_wp2
        go_roundw
        case rel => exact ⟨k + 1, by omega, by go_num, A9, c9, HN9.out⟩
        case measure => simp [intOf]; omega
    · have hkn : k = n := by omega
      subst hkn
      have hs0 : ({ initS fi bl sp with saved := (sp.map Par.df).take k } : St) = initS fi bl sp := by
        rw [List.take_of_length_le (by rw [List.length_map, HN.out]; exact Nat.le_refl _)]
        rfl
      rw [hs0] at HO
      obtain ⟨T, hT⟩ : ∃ T, f.pg / pgs k = T := ⟨_, rfl⟩
      have HT := Lib.hid hT
      have hT16 : T ≤ 16 := by rw [← hT]; exact Nat.le_trans (Nat.div_le_self _ _) H.out.ok.p2
      clear hs0 hT
      go_wp2
      go_loopw [54] (fun i wr => ∃ b : Nat, b ≤ bl ∧ i = .int .i64 b ∧ ∃ S, S.D = D ∧ OpAt w wr L S (openAll f T (initS fi bl sp) b)) (fun i _ => bl - (intOf i).toNat)
      case atStart => exact ⟨0, Nat.zero_le _, rfl, _, rfl, HO.out⟩
      case round =>
        obtain ⟨b, hb, rfl, S, hSD, hO1⟩ := hrel
        subst hSD
        have HO1 := Lib.hid hO1
        clear hO1
        by_cases hltb : b < bl
        · have HK1 := Lib.hid (openAll_kp f T (initS fi bl sp) b)
          obtain ⟨s1, hs1⟩ : ∃ s1, openAll f T (initS fi bl sp) b = s1 := ⟨_, rfl⟩
          have HS1 := Lib.hid hs1
          rw [hs1] at HO1 HK1
          have e0 := HO1.out.row 0 _ rfl
          have e3 := HO1.out.row 3 _ rfl
          have hsp : s1.spec.length = k := by rw [HK1.out.s]; exact HN.out
          rw [hsp] at e3
          have HSL := Lib.hid (slots_h (H.out.later HO1.out.below) e0 e3 n1 n48)
          rw [HT.out] at HSL
          clear hs1 e0 e3 hsp
          go_wp2_with (fail)
          (with_reducible refine HSL.out.mono ?_)
          rintro e w4 ⟨rfl, q4, rfl⟩
          have HO4 := Lib.hid (HO1.out.later (Below.drewN (Below.refl _ _) q4))
          generalize wr.drewN q4 = w4 at *
          go_wp2
          go_loopw [59] (fun i wx => ∃ j : Nat, j ≤ T ∧ i = .int .i64 j ∧ ∃ S2 : Sc, S2.D = S.D ∧ OpAt w wx L S2 (openRow f b s1 j)) (fun i _ => T - (intOf i).toNat)
          case atStart => exact ⟨0, Nat.zero_le _, rfl, S, rfl, HO4.out⟩
          case round =>
            obtain ⟨j, hj, rfl, S2, hSD2, hO2⟩ := hrel
            have hSD2' := hSD2
            have HO2 := Lib.hid hO2
            have HSD2 := Lib.hid hSD2
            clear hO2 hSD2
            by_cases hltj : j < T
            · obtain ⟨s2, hs2⟩ : ∃ s2, openRow f b s1 j = s2 := ⟨_, rfl⟩
              have HK2 : Hid (Kp (initS fi bl sp) s2) := by rw [← hs2]; exact HK1.out.trans (openRow_kp _ _ _ _)
              have HSUC : Hid (openRow f b s1 (j + 1) = openStep f s2 b j) := by rw [Hid, openRow_succ, hs2]
              rw [hs2] at HO2
              have e0 := HO2.out.row 0 _ rfl
              have e1 := HO2.out.row 1 _ rfl
              have e3 := HO2.out.row 3 _ rfl
              have e6 := HO2.out.row 6 _ rfl
              have hsp : s2.spec = sp := HK2.out.s
              have hfi : s2.first = fi := HK2.out.f
              rw [hsp, HN.out] at e3
              rw [hfi] at e1
              have hpb : (fi + b) * f.pg + f.pg ≤ f.wear.length * f.pg := by
                have h1 : (fi + b + 1) * f.pg ≤ f.wear.length * f.pg := Nat.mul_le_mul_right _ (by have := HFW.out; omega)
                rw [Nat.add_mul (fi + b), Nat.one_mul] at h1
                exact h1
              have hjk : j * pgs k + pgs k ≤ f.pg := by
                have h1 : (j + 1) * pgs k ≤ T * pgs k := Nat.mul_le_mul_right _ hltj
                have h2 : T * pgs k ≤ f.pg := by rw [← HT.out]; exact Nat.div_mul_le_self _ _
                rw [Nat.add_mul, Nat.one_mul] at h1
                omega
              obtain ⟨a, ha⟩ : ∃ a, (fi + b) * f.pg + j * pgs k = a := ⟨_, rfl⟩
              have hfl := H.out.later HO2.out.below
              have HRD := Lib.hid (sread_any hfl HD.out e0 e1 e3 n1 n48 (by have := HFW.out; omega) b j (by omega) (by omega) a ha (by omega) (fun _ => False) (fun _ h => h.elim))
              have HPS : Hid (pageS s2 f b j = a ∧ s2.k = pgs k) := by
                have hk : s2.k = pgs k := by unfold St.k; rw [hsp, HN.out]
                refine ⟨?_, hk⟩
                unfold pageS
                rw [hk, hfi, ha]
              rw [hSD2'] at HRD
              clear hs2 e0 e1 e3 e6 hpb hjk hfl ha hsp hfi
              go_wp2_with (fail)
              (with_reducible refine HRD.out.mono ?_)
              rintro e w5 ⟨A5, c5, rfl, h51, h52, hr5, hb5⟩
              have HO5 := Lib.hid (HO2.out.later hb5)
              have hk8 := pgs_le n48
              have HDC := Lib.hid (decode_any A5 (pgs k) c5 (pagesF f a (pgs k)) w5 hr5 (pagesF_len _ _ _) h51 h52 (pagesF_bytes H.out.ok))
              obtain ⟨d, hd⟩ : ∃ d, decP (pagesF f a (pgs k)) = d := ⟨_, rfl⟩
              have hd2 : decP (pagesF f (pageS s2 f b j) s2.k) = d := by rw [HPS.out.1, HPS.out.2]; exact hd
              have HNOP := Lib.hid (openStep_no hd2)
              have HYES := Lib.hid (openStep_yes hd2)
              have HVR : Hid (∀ x ∈ d.2.1, I64 x) := by rw [← hd]; exact decP_vals _
              rw [hd] at HDC
              obtain ⟨dq, dv, de⟩ := d
              unfold DecR at HDC
              simp only at HDC HNOP HYES HVR
              generalize pgs k = K at *
              clear hd hd2 hr5 hb5 h51 h52
              have hsp6 : s2.spec = sp := HK2.out.s
              by_cases hde : de = 0
              · subst hde
                rw [errV_zero] at HDC
                go_wp2_with (fail)
                (with_reducible refine HDC.out.mono ?_)
                rintro e w6 ⟨A6, c6, rfl, ho6, hb6⟩
                have HO6 := Lib.hid (HO5.out.later hb6)
                have HV6 := Lib.hid ho6
                obtain ⟨_, _, hcv, hv1, hv2, hv3⟩ := own_read ho6
                injection hcv with hcv1 _ hcv3
                subst hcv1
                subst hcv3
                have HRV := Lib.hid hv3
                unfold maxLen at hv2
                have e6 := HO6.out.row 6 _ rfl
                rw [hSD2'] at e6
                clear ho6 hb6
                obtain ⟨m, hm⟩ : ∃ m, dv.length = m := ⟨_, rfl⟩
                have HM := Lib.hid hm
                rw [hm] at HV6 hv1 ⊢
                by_cases hlen : m = k
                · have dl : ((m : Int) != (k : Int)) = false := by simp; omega
                  by_cases hq : dq ≤ s2.seq
                  · have dqq : decide (dq ≤ s2.seq) = true := by simpa using hq
                    have HNO := Lib.hid (HNOP.out (.inr (.inr hq)))
                    clear hm hlen hq hsp6
                    go_wp2
                    go_roundw
                    case rel => exact ⟨j + 1, by omega, by go_num, S2, HSD2.out, by rw [HSUC.out, HNO.out]; exact HO6.out⟩
                    case measure => simp [intOf]; omega
                  · have dqq : decide (dq ≤ s2.seq) = false := by simpa using hq
                    have HYE := Lib.hid (HYES.out (by
                      rintro (h | h | h)
                      · exact h rfl
                      · rw [hm, hsp6, HN.out] at h; exact h hlen
                      · exact hq h))
                    have e7 := HO6.out.row 7 _ rfl
                    have e8 := HO6.out.row 8 _ rfl
                    have z6 := HO6.out.fz 6
                    have z7 := HO6.out.fz 7
                    have z8 := HO6.out.fz 8
                    obtain ⟨W7, hW7⟩ : ∃ W7, ((w6.setCell ⟨S2.D, 6, none⟩ (.int .i64 dq)).setCell ⟨S2.D, 7, none⟩ (.int .i64 b)).setCell ⟨S2.D, 8, none⟩ (.int .i64 j) = W7 := ⟨_, rfl⟩
                    have HQ7 : Hid (OpAt w W7 L S2 { s2 with seq := dq, block := b, slot := j } ∧ w6.grownBy W7 (some S2.D)) := by
                      have := HO6.out.qbs dq b (j : Int)
                      rw [hW7] at this
                      exact this
                    have hv7 : W7.ownsRow w5.heap.size 3 1 (.slice A6 m c6) m (icells dv) := kept_of HV6.out HQ7.out.2 (fun g hg e => own_ne_own HO6.out.own HV6.out (by decide) g (by
                      have : some S2.D = some g := e
                      exact this) hg)
                    have f3 := HQ7.out.1.row 3 _ rfl
                    rw [show ({ s2 with seq := dq, block := b, slot := (j : Int) } : St).spec = s2.spec from rfl, hsp6, HN.out] at f3
                    have hspw := HQ7.out.1.sp
                    rw [show ({ s2 with seq := dq, block := b, slot := (j : Int) } : St).spec = s2.spec from rfl, hsp6, HN.out] at hspw
                    obtain ⟨_, _, hcs, hs21, hs22, hs23⟩ := own_read hspw
                    injection hcs with hcs1 _ hcs3
                    subst hcs1
                    subst hcs3
                    subst hlen
                    have HLG := Lib.hid (legal_any f3 sp hs23 HN.out n1 n48 hs21 hs22 A6 c6 dv (own_rd hv7) HM.out)
                    rw [hSD2'] at HLG hW7
                    rw [hSD2'] at e7 e8 z6 z7 z8
                    clear hv7 f3 hspw hs21 hs22 hs23 hm hq
                    go_wp2_with (fail)
                    (with_reducible refine HLG.out.mono ?_)
                    rintro e w8 ⟨v8, rfl, ho8, hb8⟩
                    have HO8 := Lib.hid (HQ7.out.1.later hb8)
                    obtain ⟨A8, c8, rfl, _⟩ := own_form ho8
                    have hv8 : w8.ownsRow w.heap.size 3 1 (.slice A8 m c8) m (icells (legal sp dv)) := own_low ho8 HQ7.out.1.below.size
                    have hll : (legal sp dv).length = m := by rw [legal_length (by rw [HM.out, HN.out])]; exact HN.out
                    have HO9 : Hid (OpAt w (w8.setCell ⟨S2.D, 4, none⟩ (.slice A8 m c8)) L { S2 with Av := A8, cv := c8 } { s2 with seq := dq, block := b, slot := j, saved := legal sp dv }) := by
                      refine HO8.out.cell 4 (.slice A8 m c8) { S2 with Av := A8, cv := c8 } { s2 with seq := dq, block := b, slot := j, saved := legal sp dv } rfl ?_ ⟨rfl, rfl, rfl⟩ (by simp only [hll]; exact hv8) HO8.out.p0 HO8.out.v0 HO8.out.t0
                      unfold opCells Sc.cells
                      simp only [hll]
                      rfl
                    have f4 := HO8.out.row 4 _ rfl
                    have zz4 := HO8.out.fz 4
                    rw [hSD2'] at f4 zz4
                    have HYE2 : Hid (openRow f b s1 (j + 1) = { s2 with seq := dq, block := b, slot := j, saved := legal sp dv }) := by
                      rw [Hid, HSUC.out, HYE.out]
                      simp only [hsp6]
                    rw [hSD2'] at HO9
                    clear ho8 hb8 hv8 hll hsp6
                    go_wp2
                    go_roundw
                    case rel => exact ⟨j + 1, by omega, by go_num, { S2 with D := S.D, Av := A8, cv := c8 }, rfl, by rw [HYE2.out]; exact HO9.out⟩
                    case measure => simp [intOf]; omega
                · have dl : ((m : Int) != (k : Int)) = true := by simp; omega
                  have HNO := Lib.hid (HNOP.out (.inr (.inl (by rw [hm, hsp6, HN.out]; exact hlen))))
                  clear hm hlen hsp6
                  go_wp2
                  go_roundw
                  case rel => exact ⟨j + 1, by omega, by go_num, S2, HSD2.out, by rw [HSUC.out, HNO.out]; exact HO6.out⟩
                  case measure => simp [intOf]; omega
              · have HEE := Lib.hid (errV_ne hde)
                rw [HEE.out] at HDC
                have HNO := Lib.hid (HNOP.out (.inl hde))
                clear hde hsp6
                go_wp2_with (fail)
                (with_reducible refine HDC.out.mono ?_)
                rintro e w6 ⟨A6, c6, rfl, ho6, hb6⟩
                have HO6 := Lib.hid (HO5.out.later hb6)
                clear ho6 hb6
                go_wp2
                go_roundw
                case rel => exact ⟨j + 1, by omega, by go_num, S2, HSD2.out, by rw [HSUC.out, HNO.out]; exact HO6.out⟩
                case measure => simp [intOf]; omega
            · have hjT : j = T := by omega
              subst hjT
              have HNX : Hid (openAll f j (initS fi bl sp) (b + 1) = openRow f b s1 j) := by rw [Hid, openAll_succ, HS1.out]
              go_wp2
              go_roundw
              case rel => exact ⟨b + 1, by omega, by go_num, S2, HSD2.out, by rw [HNX.out]; exact HO2.out⟩
              case measure => simp [intOf]; omega
        · have hbb : b = bl := by omega
          subst hbb
          have HK1 := Lib.hid (openAll_kp f T (initS fi b sp) b)
          have HF : Hid (openF f fi b sp = { openAll f T (initS fi b sp) b with staged := (openAll f T (initS fi b sp) b).saved }) := by
            unfold openF
            rw [Hid, HN.out, HT.out]
          obtain ⟨s1, hs1⟩ : ∃ s1, openAll f T (initS fi b sp) b = s1 := ⟨_, rfl⟩
          rw [hs1] at HO1 HK1 HF
          have hsl : s1.saved.length = k := by
            rw [HK1.out.l (initS_len _ _ _)]
            exact HN.out
          have HSLN := Lib.hid hsl
          have hsv := HO1.out.sv
          have e4 := HO1.out.row 4 _ rfl
          rw [hsl] at hsv e4
          have HCL2 := Lib.hid (clone3_any S.Av k S.cv wr.heap.size s1.saved wr (own_rd hsv) (Nat.le_refl _) hsl (by omega))
          clear hs1 hsl hsv
          go_wp2_with (fail)
          (with_reducible refine HCL2.out.mono ?_)
          rintro e w9 ⟨v9, rfl, ho9, hb9⟩
          obtain ⟨A9, c9, rfl, _, _, hg9⟩ := own_form ho9
          obtain ⟨g9, rfl, hg91, hg92⟩ := hg9 (by omega)
          have HDN := Lib.hid (HO1.out.done H.out HPE.out HSLN.out ho9 hb9)
          have HO9 := Lib.hid (HO1.out.later hb9)
          have f5 := HO9.out.row 5 _ rfl
          have z5 := HO9.out.fz 5
          have hDl := HO1.out.lt.1
          have hbs := HO1.out.below.size
          clear ho9 hb9 e4
          go_wp2
          go_ret2
          exact ⟨{ S with G := g9, cg := c9 }, rfl, by rw [HF.out]; exact HDN.out.1, HDN.out.2, hDl, by simp only; omega⟩
end
end Go.Proofs.Ytjdknddnanopaaa

/-
  An opened store is sound. No program in sight.
-/
namespace Go.Proofs.Ytjdknddnanopaaa
open Go.RowKit
set_option linter.unusedVariables false

theorem legal_vals {sp : List Par} {v : List Int} (hs : ∀ p ∈ sp, p.ok) (hv : ∀ x ∈ v, I64 x) : ∀ x ∈ legal sp v, I64 x := by
  intro x hx
  unfold legal at hx
  rw [List.mem_iff_getElem?] at hx
  obtain ⟨i, hi⟩ := hx
  rw [List.getElem?_zipWith] at hi
  cases hp : sp[i]? with
  | none => rw [hp] at hi; simp at hi
  | some p =>
    cases hx : v[i]? with
    | none => rw [hp, hx] at hi; simp at hi
    | some y =>
      rw [hp, hx] at hi
      simp at hi
      subst hi
      unfold legalP
      split
      · exact hv y (List.mem_of_getElem? hx)
      · exact (hs p (List.mem_of_getElem? hp)).d

/-- What holds all through the search. -/
structure Sch (f : Fl) (fi bl : Nat) (sp : List Par) (s : St) : Prop where
  kp : Kp (initS fi bl sp) s
  sv : s.saved.length = sp.length
  si : ∀ x ∈ s.saved, I64 x
  q1 : 0 ≤ s.seq
  q2 : s.seq ≤ 1099511627776
  b : s.block < bl
  s1 : -1 ≤ s.slot
  s2 : s.slot < ((f.pg / pgs sp.length : Nat) : Int)
  re : s.broken = false ∧ s.pages = [] ∧ s.values = [] ∧ s.dest = 0 ∧ s.toSlot = 0 ∧ s.done = 0 ∧ s.erase = false ∧ s.busy = false

theorem Sch.init {f : Fl} {fi bl : Nat} {sp : List Par} (hs : ∀ p ∈ sp, p.ok) (hb : 1 ≤ bl) : Sch f fi bl sp (initS fi bl sp) :=
  ⟨.refl _, by simp [initS], (by
    intro x hx
    simp only [initS, List.mem_map] at hx
    obtain ⟨p, hp, rfl⟩ := hx
    exact (hs p hp).d), by simp [initS], by simp [initS], by simp only [initS]; omega, by simp [initS], by simp only [initS]; generalize f.pg / pgs sp.length = T; omega, ⟨rfl, rfl, rfl, rfl, rfl, rfl, rfl, rfl⟩⟩
theorem Sch.step {f : Fl} {fi bl : Nat} {sp : List Par} {s : St} (hs : ∀ p ∈ sp, p.ok) (h : Sch f fi bl sp s) {b j : Nat} (hb : b < bl) (hj : j < f.pg / pgs sp.length) : Sch f fi bl sp (openStep f s b j) := by
  have hk := h.kp.trans (openStep_kp f s b j)
  obtain ⟨d, hd⟩ : ∃ d, decP (pagesF f (pageS s f b j) s.k) = d := ⟨_, rfl⟩
  have hsp : s.spec = sp := h.kp.s
  by_cases hc : d.2.2 ≠ 0 ∨ d.2.1.length ≠ s.spec.length ∨ d.1 ≤ s.seq
  · rw [openStep_no hd hc]
    exact h
  · rw [openStep_yes hd hc] at hk ⊢
    have h0 : d.2.2 = 0 := by omega
    have hl : d.2.1.length = s.spec.length := by omega
    have hok := decP_ok (ps := pagesF f (pageS s f b j) s.k) (by rw [hd]; exact h0)
    rw [hd] at hok
    obtain ⟨e1, e2, e3, e4⟩ := encE_zero hok.2.1
    have hv : ∀ x ∈ d.2.1, I64 x := by rw [← hd]; exact decP_vals _
    exact ⟨hk, by simp only; rw [legal_length (by rw [hl]), hsp], legal_vals (by rw [hsp]; exact hs) hv, by simp only; omega, by simp only; omega, hb, by simp only; omega, by simp only; exact Int.ofNat_lt.2 hj, h.re⟩
theorem Sch.row {f : Fl} {fi bl : Nat} {sp : List Par} {s : St} (hs : ∀ p ∈ sp, p.ok) (h : Sch f fi bl sp s) {b n : Nat} (hb : b < bl) (hn : n ≤ f.pg / pgs sp.length) : Sch f fi bl sp (openRow f b s n) := by
  induction n with
  | zero => exact h
  | succ n ih => rw [openRow_succ]; exact (ih (by omega)).step hs hb (by omega)
theorem Sch.all {f : Fl} {fi bl : Nat} {sp : List Par} {s : St} (hs : ∀ p ∈ sp, p.ok) (h : Sch f fi bl sp s) {m : Nat} (hm : m ≤ bl) : Sch f fi bl sp (openAll f (f.pg / pgs sp.length) s m) := by
  induction m with
  | zero => exact h
  | succ m ih => rw [openAll_succ]; exact (ih (by omega)).row hs (by omega) (Nat.le_refl _)
theorem openF_sch {f : Fl} {fi bl : Nat} {sp : List Par} (hs : ∀ p ∈ sp, p.ok) (he : openE f fi bl sp = 0) :
    Sch f fi bl sp (openAll f (f.pg / pgs sp.length) (initS fi bl sp) bl) := by
  obtain ⟨hd, b2, b16, f0, f1, n1, n48, hbad, hkp⟩ := openE_zero he
  exact (Sch.init hs (by omega)).all hs (Nat.le_refl _)
theorem openF_ok {f : Fl} {fi bl : Nat} {sp : List Par} (hs : ∀ p ∈ sp, p.ok) (he : openE f fi bl sp = 0) : StOk f (openF f fi bl sp) := by
  obtain ⟨hd, b2, b16, f0, f1, n1, n48, hbad, hkp⟩ := openE_zero he
  have h := openF_sch hs he
  unfold openF
  simp only
  generalize openAll f (f.pg / pgs sp.length) (initS fi bl sp) bl = s at *
  have hsp : s.spec = sp := h.kp.s
  have hbl : s.blocks = bl := h.kp.b
  have hfi : s.first = fi := h.kp.f
  obtain ⟨r1, r2, r3, r4, r5, r6, r7, r8⟩ := h.re
  have hsl : 1 ≤ f.pg / pgs sp.length := (Nat.le_div_iff_mul_le (pgs_pos n1)).2 (by omega)
  exact ⟨by simp only [hsp]; exact n1, by simp only [hsp]; exact n48, by simp only [hsp]; exact hs, by simp only [hbl]; omega, by simp only [hbl]; omega, by simp only [hbl, hfi]; omega, by unfold St.k; simp only [hsp]; exact hkp,
    by simp only [hsp]; exact h.sv, by simp only [hsp]; exact h.sv, .inr r8, h.si, h.si, by simp only [r3]; simp, h.q1, h.q2, by simp only [hbl]; exact h.b, h.s1, by unfold slotsS St.k; simp only [hsp]; exact h.s2,
    by simp only [r8]; simp, by simp only [r2]; simp, by simp only [r4, hbl]; omega, by unfold slotsS St.k; simp only [r5, hsp]; exact hsl, by simp only [r8]; simp, by simp only [r6]; exact Nat.zero_le _, by simp only [r8]; simp⟩
end Go.Proofs.Ytjdknddnanopaaa

/-
  The document's example of layer 51, as values.
-/
namespace Go.Proofs.Ytjdknddnanopaaa
open Go.RowKit
set_option linter.unusedVariables false

def awP : List Par := [⟨0, 9, 3⟩]
def awF0 : Fl := newF 2 4
def awS0 : St := openF awF0 0 2 awP
def awS1 : St := setF awS0 0 5
def awC : St × Fl × Int := commitS awS1 awF0
def awT : St := openF awC.2.1 0 2 awP
theorem aq1 : openE awF0 ((0 : Nat) : Int) ((2 : Nat) : Int) awP = 0 := by decide +kernel
theorem aq2 : setE awS0 0 5 = 0 := by decide +kernel
theorem aq3 : awC.2.2 = 0 := by decide +kernel
theorem aq4 : openE awC.2.1 ((0 : Nat) : Int) ((2 : Nat) : Int) awP = 0 := by decide +kernel
theorem aq5 : (readF awC.2.1 0).2 = 0 ∧ (readF awC.2.1 0).1.length = 64 ∧ (readF awC.2.1 0).1[15]? = some 5 ∧ (readF awC.2.1 0).1[62]? = some 1 ∧ (readF awC.2.1 0).1[63]? = some 236 := by decide +kernel
theorem aq6 : awT.saved = [5] ∧ awT.seq = 1 ∧ awT.spec.length = 1 := by decide +kernel
theorem awP_ok : ∀ p ∈ awP, p.ok := by
  intro p hp
  simp only [awP, List.mem_cons, List.not_mem_nil, or_false] at hp
  subst hp
  exact ⟨by unfold I64; simp, by unfold I64; simp, by unfold I64; simp⟩
end Go.Proofs.Ytjdknddnanopaaa

/-
  awake of layer 51.
-/
namespace Go.Proofs.Ytjdknddnanopaaa
open Go.RowKit
set_option linter.unusedVariables false

theorem rdx_at {X : Nat → Prop} {w : World} {B b off : Nat} {xs : List Value} (h : Rd w B (some ⟨b, off, none⟩) xs) (hB : B ≤ w.heap.size) (hX : ¬ X b) : RdX X w (some ⟨b, off, none⟩) xs := fun hx => by
  obtain ⟨b', off', e, hlt, hc⟩ := h hx
  obtain ⟨rfl, rfl⟩ : b = b' ∧ off = off' := by simpa using e
  exact ⟨b, off, rfl, Nat.lt_of_lt_of_le hlt hB, hX, hc⟩
theorem open_yesI {w0 w : World} {L : Lc} {f : Fl} (h : FlAt w0 w L f) (fiI blI : Int) (fi bl : Nat) (hfi : fiI = fi) (hbl : blI = bl) (A : Option Addr) (n c : Nat) (sp : List Par) (hA : Rd w w.heap.size A (pcells sp)) (hn : sp.length = n) (hnc : n ≤ c) (hcm : c ≤ maxLen) (hok : ∀ p ∈ sp, p.ok) (he : openE f fi bl sp = 0) (hpE : RdX L.E w L.Ap (kcells .u8 f.picks)) :
    Calls Try.prog 54 #[.pointer (some ⟨L.d, 0, none⟩), .int .i64 fiI, .int .i64 blI, .slice A n c] w (OpenR w0 w L f (openF f fi bl sp)) := by
  subst hfi hbl
  exact open_yes h fi bl A n c sp hA hn hnc hcm hok he hpE
theorem neq_some (d : Nat) (w : World) : (binOp .neq 114 (.pointer (some ⟨d, 0, none⟩)) (.pointer none)).run Try.prog w = .ok (.bool true) w := by kernel_rfl

end Go.Proofs.Ytjdknddnanopaaa
