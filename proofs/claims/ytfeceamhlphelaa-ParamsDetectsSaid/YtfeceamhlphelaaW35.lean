/-
  Params: Encode.
-/
import Derived.Test.YtfeceamhlphelaaW34
import Derived.Test.YtfeceamhlphelaaPlainR
import Derived.Laws.Bits64b
namespace Go.Proofs.Ytfeceamhlphelaa
open Go.RowKit
set_option linter.unusedVariables false
set_option pp.deepTerms true
set_option pp.maxSteps 40000

theorem info23 : (Try.prog.info? 23).map (fun i => (i.zero, i.size, i.bytes)) = some (some (.slice none 0 0), 1, 24) := by kernel_rfl

/-- Pages in memory, in blocks that X does not hold. -/
def RdP (X : Nat → Prop) (w : World) (A : Option Addr) (ps : List (List Int)) : Prop :=
  ∃ vs : List Value, RdX X w A vs ∧ vs.length = ps.length ∧ ∀ (i : Nat) p, ps[i]? = some p → ∃ Q m c, vs[i]? = some (.slice Q m c) ∧ p.length = m ∧ m ≤ c ∧ c ≤ maxLen ∧ RdX X w Q (kcells .u8 p)

/-- The pages that have been made. -/
structure EncI (w wr : World) (v : Value) (vs : List Value) (seq : Int) (vals : List Int) (k : Nat) : Prop where
  own : wr.ownsRow w.heap.size 23 1 v k vs
  pg : ∀ i, i < k → ∃ g, vs[i]? = some (.slice (some ⟨g, 0, none⟩) 64 64) ∧ wr.ownsRow w.heap.size 5 1 (.slice (some ⟨g, 0, none⟩) 64 64) 64 (kcells .u8 (pageP seq vals i))
  below : Below w.heap.size w wr

theorem EncI.later {w wr w' : World} {v : Value} {vs : List Value} {seq : Int} {vals : List Int} {k : Nat} (h : EncI w wr v vs seq vals k) (hb : Below wr.heap.size wr w') : EncI w w' v vs seq vals k :=
  ⟨own_below h.own hb, fun i hi => by
    obtain ⟨g, h1, h2⟩ := h.pg i hi
    exact ⟨g, h1, own_below h2 hb⟩, h.below.trans (hb.mono h.below.size)⟩
theorem below_grown {B g : Nat} {w w' : World} (h : w.grownBy w' (some g)) (hg : B ≤ g) (hB : B ≤ w.heap.size) : Below B w w' :=
  ⟨h.os, h.tape, h.output, h.size, fun k hk => h.block k (Nat.lt_of_lt_of_le hk hB) (fun e => by cases e; omega)⟩
theorem EncI.push {w W W' : World} {v v' : Value} {vs : List Value} {seq : Int} {vals : List Int} {k g : Nat} {o : Obj} (h : EncI w W v vs seq vals k)
    (hp : W.ownsRow w.heap.size 5 1 (.slice (some ⟨g, 0, none⟩) 64 64) 64 (kcells .u8 (pageP seq vals k)))
    (ho : W'.ownsRow w.heap.size 23 1 v' (k + 1) (vs ++ [.slice (some ⟨g, 0, none⟩) 64 64])) (hg : (W.alloc o).grownBy W' v.ownBlock) : EncI w W' v' (vs ++ [.slice (some ⟨g, 0, none⟩) 64 64]) seq vals (k + 1) := by
  have hb : Below W.heap.size W (W.alloc o) := (Below.refl _ _).alloc (Nat.le_refl _) o
  have h1 := h.later hb
  have hp1 := own_below hp hb
  have hl : vs.length = k := by have := h.own.1; simpa using this
  refine ⟨ho, fun i hi => ?_, h1.below.grown hg h1.below.size (fun k hk => (h1.own.lt k hk).1)⟩
  by_cases e : i = k
  · subst e
    exact ⟨g, by rw [List.getElem?_append_right (by omega), hl]; simp, kept_of hp1 hg (fun g' hg' e' => own_ne_own h1.own hp1 (by decide) g' e' hg')⟩
  · obtain ⟨g', a1, a2⟩ := h1.pg i (by omega)
    exact ⟨g', by rw [List.getElem?_append_left (by omega)]; exact a1, kept_of a2 hg (fun g2 hg' e' => own_ne_own h1.own a2 (by decide) g2 e' hg')⟩
theorem encP_get (seq : Int) (vals : List Int) (i : Nat) (hi : i < pgs vals.length) : (encP seq vals)[i]? = some (pageP seq vals i) := by
  unfold encP
  rw [List.getElem?_map, List.getElem?_range hi]
  rfl
theorem encP_length (seq : Int) (vals : List Int) : (encP seq vals).length = pgs vals.length := by simp [encP]
theorem rdx_own {X : Nat → Prop} {w : World} {base e n : Nat} {A : Option Addr} {m c : Nat} {xs : List Value} (hn : xs.length = n) (h : w.ownsRow base e 1 (.slice A m c) n xs) (hX : ∀ b, X b → b < base) : RdX X w A xs := fun hx => by
  obtain ⟨A', c', hv, _, _, hg⟩ := own_form h
  obtain ⟨A2, c2, hv2, _, _, hr⟩ := own_read h
  injection hv with hv _ _
  injection hv2 with hv2 _ _
  subst hv
  subst hv2
  have hpos : 0 < n := by
    rw [← hn]
    exact List.length_pos_iff.2 hx
  obtain ⟨g, rfl, hge, hlt⟩ := hg hpos
  obtain ⟨b, off, he, hb, hc⟩ := hr hx
  have he' : b = g ∧ off = 0 := by
    injection he with he
    injection he with h1 h2
    exact ⟨h1.symm, h2.symm⟩
  obtain ⟨rfl, rfl⟩ := he'
  exact ⟨b, 0, rfl, hb, fun hx' => by have := hX _ hx'; omega, hc⟩
theorem EncI.rd {w wr : World} {A : Option Addr} {n c : Nat} {vs : List Value} {seq : Int} {vals : List Int} (h : EncI w wr (.slice A n c) vs seq vals n) (hn : n = pgs vals.length) (X : Nat → Prop) (hX : ∀ b, X b → b < w.heap.size) : RdP X wr A (encP seq vals) := by
  have hl : vs.length = n := by have := h.own.1; simpa using this
  refine ⟨vs, rdx_own hl h.own hX, by rw [encP_length, hl, hn], fun i p hp => ?_⟩
  have hi : i < pgs vals.length := by rw [← encP_length seq vals]; exact (List.getElem?_eq_some_iff.1 hp).1
  rw [encP_get seq vals i hi] at hp
  injection hp with hp
  subst hp
  obtain ⟨g, a1, a2⟩ := h.pg i (by omega)
  exact ⟨_, 64, 64, a1, pageP_length _ _ _, Nat.le_refl _, by unfold maxLen; omega, rdx_own (by rw [kcells_length, pageP_length]) a2 hX⟩
theorem own_take {w : World} {base e g n cap : Nat} {ki : IntKind} {a b : List Int} (h : w.ownsRow base e 1 (.slice (some ⟨g, 0, none⟩) n cap) n (kcells ki (a ++ b))) : Rd w w.heap.size (some ⟨g, 0, none⟩) (kcells ki a) := by
  obtain ⟨A, c, e1, _, _, hr⟩ := own_read h
  cases e1
  exact hr.prefix ⟨kcells ki b, by rw [kcells_append]⟩

theorem own_low {w : World} {b b' e size n : Nat} {v : Value} {xs : List Value} (h : w.ownsRow b e size v n xs) (hb : b' ≤ b) : w.ownsRow b' e size v n xs :=
  ⟨h.1, by
    rcases h.2 with h' | ⟨g, cap, cur, h1, h2, h3⟩
    · exact .inl h'
    · exact .inr ⟨g, cap, cur, h1, Nat.le_trans hb h2, h3⟩⟩
theorem EncI.own_alloc {w wr : World} {v : Value} {vs : List Value} {seq : Int} {vals : List Int} {k : Nat} (h : EncI w wr v vs seq vals k) (o : Obj) : (wr.alloc o).ownsRow w.heap.size 23 1 v k vs :=
  own_below h.own ((Below.refl _ _).alloc (Nat.le_refl _) o)

theorem enc_no (seq : Int) (A : Option Addr) (n c : Nat) (w : World) (hn : n < 1000000000000) (h : encE seq n ≠ 0) :
    Calls Try.prog 52 #[.int .i64 seq, .slice A n c] w fun e w' => e = .returned (.tuple #[.slice none 0 0, .iface 40 (.int .i64 3)]) ∧ w = w' := by
  by_cases h1 : 1 ≤ seq ∧ seq ≤ 1099511627776
  · have h2 : ¬ (1 ≤ (n : Int) ∧ (n : Int) ≤ 48) := by
      unfold encE at h
      intro h3
      rw [if_neg (by omega)] at h
      exact h rfl
    have HA := Lib.hid (fun w => within51 seq 1 1099511627776 w)
    have HB := Lib.hid (fun w => within51 n 1 48 w)
    rw [decide_eq_true h1] at HA
    rw [decide_eq_false h2] at HB
    clear h h1 h2
    go_enter Try.func52, Try.ntmps52
    go_wp2_with (fail)
    (with_reducible refine (HA.out w).mono ?_)
    rintro e w1 ⟨rfl, rfl⟩
    go_wp2_with (fail)
    (with_reducible refine (HB.out w).mono ?_)
    rintro e w1 ⟨rfl, rfl⟩
    go_wp2
    go_ret2
    exact ⟨rfl, rfl⟩
  · have HA := Lib.hid (fun w => within51 seq 1 1099511627776 w)
    rw [decide_eq_false h1] at HA
    clear h h1
    go_enter Try.func52, Try.ntmps52
    go_wp2_with (fail)
    (with_reducible refine (HA.out w).mono ?_)
    rintro e w1 ⟨rfl, rfl⟩
    go_wp2
    go_ret2
    exact ⟨rfl, rfl⟩

set_option maxRecDepth 100000 in
set_option maxHeartbeats 4000000 in
theorem enc_yes (X : Nat → Prop) (seq : Int) (A : Option Addr) (n c : Nat) (vals : List Int) (w : World) (hX : ∀ b, X b → b < w.heap.size) (hA : Rd w w.heap.size A (icells vals)) (hn : vals.length = n) (hnc : n ≤ c) (hcm : c ≤ maxLen) (hv : ∀ x ∈ vals, -9223372036854775808 ≤ x ∧ x < 9223372036854775808) (h : encE seq n = 0) :
    Calls Try.prog 52 #[.int .i64 seq, .slice A n c] w fun e w' => ∃ A' c', e = .returned (.tuple #[.slice A' (pgs n) c', .nilIface]) ∧ pgs n ≤ c' ∧ c' ≤ maxLen ∧ RdP X w' A' (encP seq vals) ∧ Below w.heap.size w w' := by
  obtain ⟨s1, s2, n1, n2⟩ : 1 ≤ seq ∧ seq ≤ 1099511627776 ∧ 1 ≤ n ∧ n ≤ 48 := by
    unfold encE at h
    split at h
    · cases h
    · omega
  obtain ⟨ba, off, rfl⟩ : ∃ ba off, A = some ⟨ba, off, none⟩ := by
    obtain ⟨x, hx⟩ := getElem?_of_lt (l := vals) (k := 0) (by omega)
    obtain ⟨b, o, e, _⟩ := hA.int hx
    exact ⟨b, o, e⟩
  have HX := Lib.hid hX
  have HA := Lib.hid hA
  have HN := Lib.hid hn
  have HV := Lib.hid hv
  have HW1 := Lib.hid (fun w => within51 seq 1 1099511627776 w)
  have HW2 := Lib.hid (fun w => within51 n 1 48 w)
  rw [decide_eq_true (show 1 ≤ seq ∧ seq ≤ 1099511627776 by omega)] at HW1
  rw [decide_eq_true (show 1 ≤ (n : Int) ∧ (n : Int) ≤ 48 by omega)] at HW2
  have HPG := Lib.hid (fun w => pgs_any n (by omega) w)
  have HPD : Hid (6 * pgs n < n + 6 ∧ n ≤ 6 * pgs n) := by unfold pgs; exact ⟨by omega, by omega⟩
  have hpn : pgs n ≤ 8 := by have := HPD.out; omega
  obtain ⟨i23, hi, hz0, hz1, hz2⟩ := info_parts info23
  have hm8 : ∀ wx : World, (Instr.makeSlice 23 (.int .i64 64) (.int .i64 64)).run Try.prog wx = .ok (.slice (some ⟨wx.heap.size, 0, none⟩) 64 64) (wx.alloc (.cells (madeCells #[.int .u8 0] 64) 5)) := fun wx =>
    run_make_row' 23 5 (.int .u8 0) 1 Try.underlying23 info5 rfl .i64 .i64 64 (by omega) (by omega) wx
  have HC8 : Hid ((madeCells #[.int .u8 0] 64).toList = kcells .u8 (List.replicate 64 0)) := made_k .u8 64
  generalize madeCells #[.int .u8 0] 64 = C8 at *
  obtain ⟨P, hP⟩ : ∃ P, pgs n = P := ⟨_, rfl⟩
  have HPE := Lib.hid hP
  rw [hP] at HPG HPD hpn ⊢
  have hu : seq % 18446744073709551616 = seq := by omega
  have nu : (n : Int) % 256 = n := by omega
  unfold maxLen at hcm
  clear hX hA hn hv h hP
  go_enter Try.func52, Try.ntmps52
  go_wp2_with (fail)
  (with_reducible refine (HW1.out w).mono ?_)
  rintro e w1 ⟨rfl, rfl⟩
  go_wp2_with (fail)
  (with_reducible refine (HW2.out w).mono ?_)
  rintro e w1 ⟨rfl, rfl⟩
  go_wp2_with (fail)
  (with_reducible refine (HPG.out w).mono ?_)
  rintro e w1 ⟨rfl, rfl⟩
  go_wp2
  go_loopw [6, 24] (fun v i wr => ∃ k : Nat, k ≤ P ∧ i = .int .i64 k ∧ ∃ vs, EncI w wr v vs seq vals k) (fun _ i _ => P - (intOf i).toNat)
  case atStart => exact ⟨0, by omega, rfl, [], ⟨World.ownsRow_nil _ _ _ _, fun i hi => absurd hi (by omega), Below.refl _ _⟩⟩
  case round =>
    obtain ⟨k, hk, rfl, vs, hI⟩ := hrel
    have HI := Lib.hid hI
    clear hI
    obtain ⟨wa, hwa⟩ : ∃ wa, wa = wr := ⟨_, rfl⟩
    subst hwa
    by_cases hlt : k < P
    · obtain ⟨W, hW⟩ : ∃ W, wa.alloc (.cells C8 5) = W := ⟨_, rfl⟩
      have HBW : Hid (Below wa.heap.size wa W) := by rw [← hW]; exact (Below.refl _ _).alloc (Nat.le_refl _) _
      have HOW : Hid (W.ownsRow wa.heap.size 5 1 (.slice (some ⟨wa.heap.size, 0, none⟩) 64 64) 64 (kcells .u8 (List.replicate 64 0))) := by
        rw [← hW]
        exact own_alloc HC8.out (by rw [kcells_length, List.length_replicate]) (Nat.le_refl _) (by unfold maxLen; omega)
      have k8 : (k : Int) % 256 = k := by omega
      have d0 : W.cell? ⟨wa.heap.size, 0, none⟩ = some (.int .u8 0) := own_k (List.length_replicate) HOW.out (by rw [List.getElem?_replicate, if_pos (by omega)])
      have d1 : W.cell? ⟨wa.heap.size, 1, none⟩ = some (.int .u8 0) := own_k (List.length_replicate) HOW.out (by rw [List.getElem?_replicate, if_pos (by omega)])
      have f0 : W.frozen? ⟨wa.heap.size, 0, none⟩ = false := HOW.out.frozenAt _
      have f1 : W.frozen? ⟨wa.heap.size, 1, none⟩ = false := HOW.out.frozenAt _
      obtain ⟨W2, hW2⟩ : ∃ V, (W.setCell ⟨wa.heap.size, 0, none⟩ (.int .u8 k)).setCell ⟨wa.heap.size, 1, none⟩ (.int .u8 n) = V := ⟨_, rfl⟩
      have HOW2 : Hid (W2.ownsRow wa.heap.size 5 1 (.slice (some ⟨wa.heap.size, 0, none⟩) 64 64) 64 (kcells .u8 ([(k : Int), (n : Int)] ++ List.replicate 62 0))) := by
        rw [← hW2]
        have a1 := own_set_k HOW.out 0 (k : Int)
        have a2 := own_set_k a1 1 (n : Int)
        exact a2
      have HBW2 : Hid (Below wa.heap.size wa W2) := by
        rw [← hW2]
        exact (HBW.out.setCell (p := ⟨wa.heap.size, 0, none⟩) (Nat.le_refl _) _).setCell (p := ⟨wa.heap.size, 1, none⟩) (Nat.le_refl _) _
      go_wp2_with (fail)
      clear hW hW2 d0 d1 f0 f1
      (with_reducible refine (put_any wa.heap.size wa.heap.size 64 64 2 6 62 _ seq W2 HOW2.out rfl (by omega) (by omega) (by omega)).mono ?_)
      rintro e w3 ⟨rfl, ho3, hg3⟩
      have HO3 : Hid (w3.ownsRow wa.heap.size 5 1 (.slice (some ⟨wa.heap.size, 0, none⟩) 64 64) 64 (kcells .u8 (bodyI seq vals k 0 ++ [0, 0]))) := by
        rw [Hid, ← head_put, show asU seq = seq from (asU_eq seq).trans hu, HN.out]
        exact ho3
      have HB3 : Hid (Below wa.heap.size wa w3) := HBW2.out.trans (below_grown hg3 (Nat.le_refl _) HBW2.out.size)
      clear ho3 hg3 HOW2 HBW2 HOW HBW
      obtain ⟨H, hH⟩ : ∃ H, min n (6 * k + 6) = H := ⟨_, rfl⟩
      obtain ⟨lo, hlo⟩ : ∃ lo, 6 * k = lo := ⟨_, rfl⟩
      have q1 : (k : Int) * 6 = (lo : Int) := by omega
      have q2 : ((k : Int) + 1) * 6 = (lo : Int) + 6 := by omega
      have q3 : min (n : Int) ((lo : Int) + 6) = (H : Int) := by omega
      have q4 : lo ≤ H ∧ H ≤ n ∧ H ≤ lo + 6 ∧ (H < lo + 6 → H = n) := by have := HPD.out; omega
      obtain ⟨q5, q6, q7, q8⟩ := q4
      have HLO := Lib.hid hlo
      have q9 : ¬ (c = lo) := by have := HPD.out; omega
      clear hH hlo
      obtain ⟨m, hm⟩ : ∃ m, H - lo = m := ⟨_, rfl⟩
      have hm' : H = lo + m := by omega
      subst hm'
      clear hm
      rw [Int.natCast_add] at q3
      have HQ8 := Lib.hid q8
      clear q8
      go_wp2
      rw [Nat.add_sub_cancel_left]
      go_loopw [53] (fun i wr => ∃ j : Nat, j ≤ m ∧ i = .int .i64 j ∧ wr.ownsRow wa.heap.size 5 1 (.slice (some ⟨wa.heap.size, 0, none⟩) 64 64) 64 (kcells .u8 (bodyI seq vals k j ++ [0, 0])) ∧ Below wa.heap.size wa wr) (fun i _ => m - (intOf i).toNat)
      case atStart => exact ⟨0, by omega, rfl, HO3.out, HB3.out⟩
      case round =>
        obtain ⟨j, hj, rfl, hO, hB⟩ := hrel
        have HO := Lib.hid hO
        have HB := Lib.hid hB
        clear hO hB
        by_cases hltj : j < m
        · obtain ⟨x, hx⟩ := getElem?_of_lt (l := vals) (k := lo + j) (by rw [HN.out]; omega)
          obtain ⟨ba', off', eA, _, c0⟩ := (HA.out.below (HI.out.below.trans (HB.out.mono HI.out.below.size)) (Nat.le_refl _)).int hx
          injection eA with eA
          injection eA with eA1 eA2
          subst eA1
          subst eA2
          rw [← Nat.add_assoc] at c0
          obtain ⟨o, ho⟩ : ∃ o, 8 + 8 * j = o := ⟨_, rfl⟩
          have r1 : (8 : Int) + 8 * (j : Int) = (o : Int) := by omega
          have r2 : o + 8 ≤ 64 := by omega
          have HXP : Hid (lay (bodyI seq vals k j ++ [0, 0]) o (putB (asU x) 8) = bodyI seq vals k (j + 1) ++ [0, 0]) := by
            rw [← ho]
            exact body_put seq vals k j x (by omega) (by rw [HLO.out]; exact hx) [0, 0]
          have HLL : Hid ((bodyI seq vals k j ++ [0, 0]).length = 64) := by rw [Hid, List.length_append, bodyI_length _ _ _ _ (by omega)]; rfl
          have HU := Lib.hid (asU_range x)
          have HPT := Lib.hid (put_any wa.heap.size wa.heap.size 64 64 o 8 (64 - o) _ (IntKind.u64.wrap x) wr HO.out HLL.out (by omega) (by omega) HU.out)
          clear hx ho
          go_wp2_with (fail)
          (with_reducible refine HPT.out.mono ?_)
          rintro e w4 ⟨rfl, ho4, hg4⟩
          have HO4 : Hid (w4.ownsRow wa.heap.size 5 1 (.slice (some ⟨wa.heap.size, 0, none⟩) 64 64) 64 (kcells .u8 (bodyI seq vals k (j + 1) ++ [0, 0]))) := by
            rw [Hid, ← HXP.out]
            exact ho4
          have HB4 : Hid (Below wa.heap.size wa w4) := HB.out.trans (below_grown hg4 (Nat.le_refl _) HB.out.size)
          clear ho4 hg4 c0
          go_wp2
          go_roundw
          case rel => exact ⟨j + 1, by omega, by go_num, HO4.out, HB4.out⟩
          case measure => simp [intOf]; omega
        · have hjm : j = m := by omega
          subst hjm
          have HBP : Hid (bodyI seq vals k j = bodyP seq vals k) := by
            by_cases e6 : j = 6
            · subst e6; rfl
            · exact body_rest seq vals k j (by omega) (by rw [HN.out, HLO.out]; have := HQ8.out (by omega); omega)
          have HO5 : Hid (wr.ownsRow wa.heap.size 5 1 (.slice (some ⟨wa.heap.size, 0, none⟩) 64 64) 64 (kcells .u8 (bodyP seq vals k ++ [0, 0]))) := by
            rw [Hid, ← HBP.out]
            exact HO.out
          have HZ := Lib.hid (zeros_any (some ⟨wa.heap.size, 0, none⟩) 62 64 (bodyP seq vals k) wr.drew (((own_take HO5.out)).below (Below.drew (Below.refl _ _)) (Nat.le_refl _)) (bodyP_length _ _ _) (bodyI_bytes seq vals k 6 (by omega) (by rw [HN.out]; omega)) (by omega))
          obtain ⟨z, hz⟩ : ∃ z, zerosB (bodyP seq vals k) = z := ⟨_, rfl⟩
          have hzr := zeros_range (bodyP seq vals k)
          rw [bodyP_length, hz] at hzr
          have zw : IntKind.u64.wrap z = z := by rw [IntKind.wrap_u64]; omega
          have HPZ : Hid (lay (bodyP seq vals k ++ [0, 0]) 62 (putB (IntKind.u64.wrap z) 2) = pageP seq vals k) := by rw [Hid, zw, ← hz]; exact foot_put seq vals k
          rw [hz] at HZ
          have HPT := Lib.hid (put_any wa.heap.size wa.heap.size 64 64 62 2 2 _ (IntKind.u64.wrap z) wr.drew (own_below HO5.out (Below.drew (Below.refl _ _))) (by rw [List.length_append, bodyP_length]; rfl) (by omega) (by omega) (by rw [zw]; omega))
          clear hz HBP zw
          go_upto_region 15 with (fail)
          go_region_with (first
            | (go_at_call 85; with_reducible refine HZ.out.mono ?_; rintro e wz ⟨rfl, rfl⟩)
            | (go_at_call 94; with_reducible refine HPT.out.mono ?_; rintro e w6 ⟨rfl, ho6, hg6⟩))
          have HO6 : Hid (w6.ownsRow wa.heap.size 5 1 (.slice (some ⟨wa.heap.size, 0, none⟩) 64 64) 64 (kcells .u8 (pageP seq vals k))) := by
            rw [Hid, ← HPZ.out]
            exact ho6
          have HB6 : Hid (Below wa.heap.size wa w6) := (HB.out.trans (Below.drew (Below.refl _ _) |>.mono HB.out.size)).trans (below_grown hg6 (Nat.le_refl _) HB.out.size)
          have HI6 := Lib.hid (HI.out.later HB6.out)
          have HOB := Lib.hid (own_low HO6.out HI.out.below.size)
          clear ho6 hg6
          go_wp2_with (at_builtin; refine wpList_append_own _ rfl _ _ 70 rfl w.heap.size 23 i23 (.slice none 0 0) 1 24 Try.underlying70 hi hz0 hz1 hz2 rfl (by omega) _ _ _ rfl (HI6.out.own_alloc _) ⟨w6.heap.size, 0, none⟩ 1 1 [.slice (some ⟨wa.heap.size, 0, none⟩) 64 64] rfl rfl (cell_one_new _ _ _) (by simp [Value.oneCell']) (by unfold maxLen; omega) (by omega) (by have := HI6.out.below.size; simp; omega) ?_)
          intro v' w8 hown8 hgrow8 _
          have HI8 := Lib.hid (HI6.out.push HOB.out hown8 hgrow8)
          clear hown8 hgrow8
          go_wp2
          go_roundw
          case rel => exact ⟨k + 1, by omega, by go_num, _, HI8.out⟩
          case measure => simp [intOf]; omega
    · have hkn : k = P := by omega
      subst hkn
      obtain ⟨A', c', rfl, h1, h2, _⟩ := own_read HI.out.own
      have HR := Lib.hid (HI.out.rd (by rw [HN.out, HPE.out]) X HX.out)
      have HH := Lib.hid (And.intro h1 h2)
      clear h1 h2
      go_wp2
      go_ret2
      exact ⟨A', c', rfl, HH.out.1, HH.out.2, HR.out, HI.out.below⟩
end Go.Proofs.Ytfeceamhlphelaa
