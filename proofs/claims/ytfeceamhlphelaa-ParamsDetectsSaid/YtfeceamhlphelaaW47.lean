/-
  Params: checkOpen, Clone of a specification, read, legal.
-/
import Derived.Test.YtfeceamhlphelaaW41
namespace Go.Proofs.Ytfeceamhlphelaa
open Go.RowKit
set_option linter.unusedVariables false
set_option pp.deepTerms true

theorem info99 : (Try.prog.info? 99).map (fun i => (i.zero, i.size, i.bytes)) = some (some (.agg #[.int .i64 0, .int .i64 0, .int .i64 0]), 3, 24) := by kernel_rfl
theorem eqs86_some (a : Addr) (n c : Nat) (w : World) : (binOp .eql 86 (.slice (some a) n c) (.slice none 0 0)).run Try.prog w = .ok (.bool false) w := by kernel_rfl
theorem eqs86_none (n c : Nat) (w : World) : (binOp .eql 86 (.slice none n c) (.slice none 0 0)).run Try.prog w = .ok (.bool true) w := by kernel_rfl
theorem pcells_one (l : List Par) : ∀ u ∈ pcells l, u.oneCell' = true := by
  intro u hu
  simp only [pcells, List.mem_flatMap] at hu
  obtain ⟨x, _, h⟩ := hu
  simp only [Par.cells, List.mem_cons, List.not_mem_nil, or_false] at h
  rcases h with rfl | rfl | rfl <;> rfl
theorem pcells_len3 (l : List Par) : (pcells l).length = l.length * 3 := flat_length Par.cells 3 (fun _ => rfl) l

set_option maxHeartbeats 2000000 in
theorem clonep_any (A : Option Addr) (n c B : Nat) (b : List Par) (w : World) (hA : Rd w B A (pcells b)) (hB : B ≤ w.heap.size) (hn : b.length = n) (hm : n ≤ 1000000) :
    Calls Try.prog 96 #[.slice A n c] w fun e w' => ∃ v', e = .returned v' ∧ w'.ownsRow w.heap.size 99 3 v' n (pcells b) ∧ Below w.heap.size w w' := by
  cases A with
  | none =>
    have hb : b = [] := by
      cases hbb : b with
      | nil => rfl
      | cons x r =>
        obtain ⟨_, _, e, _⟩ := hA (by rw [hbb]; simp [pcells, Par.cells])
        cases e
    subst hb
    simp at hn
    subst hn
    have h1 := eqs86_none 0 c
    clear hA
    go_enter Try.func96, Try.ntmps96
    go_wp2
    go_ret
    exact ⟨_, rfl, World.ownsRow_nil .., Below.refl _ _⟩
  | some a =>
    have h1 := eqs86_some a n c
    have HA := Lib.hid hA
    have HKL : Hid ((pcells b).length = n * 3) := by rw [Hid, pcells_len3, hn]
    obtain ⟨i9, hi9, hz90, hz91, hz92⟩ := info_parts info99
    have hm0 : 0 ≤ maxLen := Nat.zero_le _
    clear hA hn
    go_enter Try.func96, Try.ntmps96
    go_wp2_with (at_builtin; refine wpList_append_rd _ rfl _ _ 86 rfl w.heap.size 99 i9 (.agg #[.int .i64 0, .int .i64 0, .int .i64 0]) 3 24 Try.underlying86 hi9 hz90 hz91 hz92 rfl (by omega) _ 0 [] rfl (World.ownsRow_lit w #[] 0 (Nat.le_refl _) hm0 rfl) B _ n c (pcells b) rfl (HA.out.below ((Below.refl w.heap.size w).alloc (Nat.le_refl _) _) hB) HKL.out (pcells_one _) (by unfold maxLen; omega) (by omega) (by simp) ?_)
    intro v' w2 hown hgrow hat
    have HB2 : Hid (Below w.heap.size w w2) := ((Below.refl w.heap.size w).alloc (Nat.le_refl _) _).grown hgrow (by simp) (fun k hk => by have hk' : some w.heap.size = some k := hk; injection hk'; omega)
    try simp only [Nat.zero_add, List.nil_append] at hown
    have HO := Lib.hid hown
    clear hown hgrow hat
    go_wp2
    go_ret
    exact ⟨_, rfl, by simpa using HO.out, HB2.out⟩

def badP (p : Par) : Bool := decide (p.df < p.lo ∨ p.hi < p.df)
theorem any_step {l : List Par} {k : Nat} {p : Par} (hp : l[k]? = some p) (h : (l.take k).any badP = false) (hb : badP p = false) : (l.take (k + 1)).any badP = false := by
  rw [take_snoc_get l k p hp, List.any_append, h, Bool.false_or]
  simp [hb]
theorem any_yes {l : List Par} {k : Nat} {p : Par} (hp : l[k]? = some p) (hb : badP p = true) : l.any badP = true := List.any_eq_true.2 ⟨p, List.mem_of_getElem? hp, hb⟩

section
variable {w0 w : World} {L : Lc} {f : Fl}

set_option maxRecDepth 100000 in
set_option maxHeartbeats 8000000 in
theorem check_any (h : FlAt w0 w L f) (first blocks : Int) (hf1 : I64 first) (hb1 : I64 blocks) (A : Option Addr) (n c : Nat) (sp : List Par) (hA : Rd w w.heap.size A (pcells sp)) (hn : sp.length = n) (hnc : n ≤ c) (hcm : c ≤ maxLen) (hok : ∀ p ∈ sp, p.ok) :
    Calls Try.prog 95 #[.pointer (some ⟨L.d, 0, none⟩), .int .i64 first, .int .i64 blocks, .slice A n c] w fun e w' => e = .returned (errV (openE f first blocks sp)) ∧ Below w.heap.size w w' := by
  unfold maxLen at hcm
  unfold I64 at hf1 hb1
  have h1 := eqp_some L.d
  have HDN := Lib.hid (down_any h)
  have HB := Lib.hid (blocks_any h)
  have hw := h.ok.b2
  have HA := Lib.hid hA
  have HN := Lib.hid hn
  have HOK := Lib.hid hok
  have H := Lib.hid h
  have HW1 := Lib.hid (fun w => within51 blocks 2 16 w)
  have HW2 := Lib.hid (fun w => within51 n 1 48 w)
  by_cases hd : f.down = true
  · have HE : Hid (openE f first blocks sp = 20) := by unfold openE; rw [Hid, if_pos hd]
    rw [hd] at HDN
    clear h hA hn hok hd
    go_enter Try.func95, Try.ntmps95
    go_wp2_with (fail)
    (with_reducible refine HDN.out.mono ?_)
    rintro e w1 ⟨rfl, rfl⟩
    go_wp2
    go_ret
    rw [HE.out]
    exact ⟨rfl, Below.refl _ _⟩
  have hd' : f.down = false := by simpa using hd
  have HD := Lib.hid hd'
  rw [hd'] at HDN
  by_cases hb : 2 ≤ blocks ∧ blocks ≤ 16
  case neg =>
    have HE : Hid (openE f first blocks sp = 3) := by unfold openE; rw [Hid, if_neg hd, if_pos (by omega)]
    rw [decide_eq_false hb] at HW1
    clear h hA hn hok hd hd' hb
    go_enter Try.func95, Try.ntmps95
    go_wp2_with (fail)
    (with_reducible refine HDN.out.mono ?_)
    rintro e w1 ⟨rfl, rfl⟩
    go_wp2_with (fail)
    (with_reducible refine (HW1.out _).mono ?_)
    rintro e w1 ⟨rfl, rfl⟩
    go_wp2
    go_ret
    rw [HE.out]
    exact ⟨rfl, Below.refl _ _⟩
  rw [decide_eq_true hb] at HW1
  by_cases hi : first < 0 ∨ (f.wear.length : Int) - blocks < first
  · have HE : Hid (openE f first blocks sp = 10) := by unfold openE; rw [Hid, if_neg hd, if_neg (by omega), if_pos hi]
    by_cases hi0 : first < 0
    · have d1 : decide (first < 0) = true := by simpa using hi0
      clear h hA hn hok hd hd' hi
      go_enter Try.func95, Try.ntmps95
      go_wp2_with (fail)
      (with_reducible refine HDN.out.mono ?_)
      rintro e w1 ⟨rfl, rfl⟩
      go_wp2_with (fail)
      (with_reducible refine (HW1.out _).mono ?_)
      rintro e w1 ⟨rfl, rfl⟩
      go_wp2
      go_ret
      rw [HE.out]
      exact ⟨rfl, Below.refl _ _⟩
    · have hi2 : (f.wear.length : Int) - blocks < first := by omega
      have d1 : decide (first < 0) = false := by simpa using hi0
      obtain ⟨hb2, hb3⟩ := hb
      generalize f.wear.length = nw at *
      have d2 : decide ((nw : Int) - blocks < first) = true := by simpa using hi2
      clear h hA hn hok hd hd' hi hi0
      go_enter Try.func95, Try.ntmps95
      go_wp2_with (fail)
      (with_reducible refine HDN.out.mono ?_)
      rintro e w1 ⟨rfl, rfl⟩
      go_wp2_with (fail)
      (with_reducible refine (HW1.out _).mono ?_)
      rintro e w1 ⟨rfl, rfl⟩
      go_wp2_with (fail)
      (with_reducible refine HB.out.mono ?_)
      rintro e w1 ⟨rfl, rfl⟩
      go_wp2
      go_ret
      rw [HE.out]
      exact ⟨rfl, Below.refl _ _⟩
  have hi0 : 0 ≤ first := by omega
  have hi2 : first ≤ (f.wear.length : Int) - blocks := by omega
  have d1 : decide (first < 0) = false := by simpa using hi0
  obtain ⟨hb2, hb3⟩ := hb
  by_cases hl : 1 ≤ n ∧ n ≤ 48
  case neg =>
    have HE : Hid (openE f first blocks sp = 3) := by unfold openE; rw [Hid, if_neg hd, if_neg (by omega), if_neg hi, if_pos (by omega)]
    rw [decide_eq_false (show ¬ (1 ≤ (n : Int) ∧ (n : Int) ≤ 48) by omega)] at HW2
    generalize f.wear.length = nw at *
    have d2 : decide ((nw : Int) - blocks < first) = false := by simpa using hi2
    clear h hA hn hok hd hd' hi hl
    go_enter Try.func95, Try.ntmps95
    go_wp2_with (fail)
    (with_reducible refine HDN.out.mono ?_)
    rintro e w1 ⟨rfl, rfl⟩
    go_wp2_with (fail)
    (with_reducible refine (HW1.out _).mono ?_)
    rintro e w1 ⟨rfl, rfl⟩
    go_wp2_with (fail)
    (with_reducible refine HB.out.mono ?_)
    rintro e w1 ⟨rfl, rfl⟩
    go_wp2_with (fail)
    (with_reducible refine (HW2.out _).mono ?_)
    rintro e w1 ⟨rfl, rfl⟩
    go_wp2
    go_ret
    rw [HE.out]
    exact ⟨rfl, Below.refl _ _⟩
  rw [decide_eq_true (show 1 ≤ (n : Int) ∧ (n : Int) ≤ 48 by omega)] at HW2
  have HE : Hid (openE f first blocks sp = if sp.any badP = true then 3 else if f.pg < pgs n then 11 else 0) := by
    unfold openE
    rw [Hid, if_neg hd, if_neg (by omega), if_neg hi, if_neg (by omega), hn]
    rfl
  have HPG := Lib.hid (fun (w' : World) (hb : Below w.heap.size w w') => pages_any (h.later hb))
  have HPGS := Lib.hid (fun w => pgs_any n (by omega) w)
  have hp16 := h.ok.p2
  have hk8 := pgs_le hl.2
  generalize f.wear.length = nw at *
  have d2 : decide ((nw : Int) - blocks < first) = false := by simpa using hi2
  obtain ⟨hl1, hl2⟩ := hl
  clear h hA hn hok hd hd' hi
  go_enter Try.func95, Try.ntmps95
  go_wp2_with (fail)
  (with_reducible refine HDN.out.mono ?_)
  rintro e w1 ⟨rfl, rfl⟩
  go_wp2_with (fail)
  (with_reducible refine (HW1.out _).mono ?_)
  rintro e w1 ⟨rfl, rfl⟩
  go_wp2_with (fail)
  (with_reducible refine HB.out.mono ?_)
  rintro e w1 ⟨rfl, rfl⟩
  go_wp2_with (fail)
  (with_reducible refine (HW2.out _).mono ?_)
  rintro e w1 ⟨rfl, rfl⟩
  clear d1 d2
  go_wp2
  go_loopw [44] (fun i wr => ∃ k : Nat, k ≤ n ∧ i = .int .i64 k ∧ (sp.take k).any badP = false ∧ Below w.heap.size w wr) (fun i _ => n - (intOf i).toNat)
  case atStart => exact ⟨0, Nat.zero_le _, rfl, rfl, Below.refl _ _⟩
  case round =>
    obtain ⟨k, hk, rfl, ht, hbw⟩ := hrel
    have HT := Lib.hid ht
    have HBW := Lib.hid hbw
    clear ht hbw
    by_cases hlt : k < n
    · obtain ⟨p, hp⟩ := getElem?_of_lt (l := sp) (k := k) (by rw [HN.out]; exact hlt)
      obtain ⟨b, off, rfl, hbl, e0, e1, e2⟩ := (RdX.of (X := fun _ => False) (HA.out.below HBW.out (Nat.le_refl _)) HBW.out.size (fun _ h => h.elim)).par hp
      have HP := Lib.hid hp
      have HB3 : Hid (Below w.heap.size w (wr.alloc (.cells #[.int .i64 p.lo, .int .i64 p.hi, .int .i64 p.df] 99))) := HBW.out.alloc HBW.out.size _
      clear hp
      by_cases q1 : p.df < p.lo
      · have d1 : decide (p.df < p.lo) = true := by simpa using q1
        have HF : Hid (openE f first blocks sp = 3) := by
          rw [Hid, HE.out, if_pos (any_yes HP.out (by unfold badP; rw [decide_eq_true (.inl q1)]))]
        clear q1
        go_wp2
        go_ret
        rw [HF.out]
        exact ⟨rfl, HB3.out⟩
      · have d1 : decide (p.df < p.lo) = false := by simpa using q1
        by_cases q2 : p.hi < p.df
        · have d2 : decide (p.hi < p.df) = true := by simpa using q2
          have HF : Hid (openE f first blocks sp = 3) := by
            rw [Hid, HE.out, if_pos (any_yes HP.out (by unfold badP; rw [decide_eq_true (.inr q2)]))]
          clear q1 q2
          go_wp2
          go_ret
          rw [HF.out]
          exact ⟨rfl, HB3.out⟩
        · have d2 : decide (p.hi < p.df) = false := by simpa using q2
          have HS := Lib.hid (any_step HP.out HT.out (by unfold badP; rw [decide_eq_false (by omega)]))
          clear q1 q2
          go_wp2
          go_roundw
          case rel => exact ⟨k + 1, by omega, by go_num, HS.out, HB3.out⟩
          case measure => simp [intOf]; omega
    · have hkn : k = n := by omega
      subst hkn
      have HNB : Hid (sp.any badP = false) := by
        have := HT.out
        rwa [List.take_of_length_le (by rw [HN.out]; exact Nat.le_refl _)] at this
      have HPW := Lib.hid (HPG.out wr HBW.out)
      by_cases hs : f.pg < pgs k
      · have HF : Hid (openE f first blocks sp = 11) := by rw [Hid, HE.out, HNB.out, if_neg (by decide), if_pos hs]
        generalize f.pg = pg at *
        generalize pgs k = K at *
        have d3 : decide (pg < K) = true := by simpa using hs
        clear HE
        go_wp2_with (fail)
        (with_reducible refine (HPGS.out _).mono ?_)
        rintro e w1 ⟨rfl, rfl⟩
        go_wp2_with (fail)
        (with_reducible refine HPW.out.mono ?_)
        rintro e w1 ⟨rfl, rfl⟩
        go_wp2
        go_ret
        rw [HF.out]
        exact ⟨rfl, HBW.out⟩
      · have HF : Hid (openE f first blocks sp = 0) := by rw [Hid, HE.out, HNB.out, if_neg (by decide), if_neg hs]
        generalize f.pg = pg at *
        generalize pgs k = K at *
        have d3 : decide (pg < K) = false := by simpa using hs
        clear HE
        go_wp2_with (fail)
        (with_reducible refine (HPGS.out _).mono ?_)
        rintro e w1 ⟨rfl, rfl⟩
        go_wp2_with (fail)
        (with_reducible refine HPW.out.mono ?_)
        rintro e w1 ⟨rfl, rfl⟩
        go_wp2
        go_ret
        rw [HF.out]
        exact ⟨rfl, HBW.out⟩
end
end Go.Proofs.Ytfeceamhlphelaa
