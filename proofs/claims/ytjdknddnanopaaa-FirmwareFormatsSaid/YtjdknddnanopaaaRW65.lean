
/-
  The reference of layer 51: Page, Encode.
-/
import Derived.Test.YtjdknddnanopaaaRW64
namespace Go.Proofs.Ytjdknddnanopaaa
open Go.RowKit
set_option linter.unusedVariables false
set_option linter.unusedSimpArgs false

/-- The bytes of a page, of which so many values are put: as they grow. -/
def growP (seq : Int) (vals : List Int) (k i : Nat) : List Int := headB seq vals.length k ++ (List.range i).flatMap (valB vals k)
theorem growP_length (seq : Int) (vals : List Int) (k i : Nat) : (growP seq vals k i).length = 8 + 8 * i := by
  unfold growP
  rw [List.length_append, headB_length, flat8]
theorem growP_succ (seq : Int) (vals : List Int) (k i : Nat) : growP seq vals k (i + 1) = growP seq vals k i ++ valB vals k i := by
  unfold growP
  rw [List.range_succ, List.flatMap_append, List.append_assoc]
  simp
theorem growP_body (seq : Int) (vals : List Int) (k : Nat) : growP seq vals k 6 ++ [0, 0, 0, 0, 0, 0] = bodyP seq vals k := by
  unfold growP bodyP bodyI
  simp
theorem own_rd65 {w : World} {base e size n c : Nat} {A : Option Addr} {xs : List Value} (h : w.ownsRow base e size (.slice A n c) n xs) : Rd w w.heap.size A xs := by
  obtain ⟨A', c', e', _, _, hr⟩ := own_read h
  injection e' with e1 _ _
  rw [e1]
  exact hr

set_option maxRecDepth 100000 in
set_option maxHeartbeats 4000000 in
theorem page_r (seq : Int) (A : Option Addr) (n c : Nat) (vals : List Int) (k : Nat) (w : World) (hA : Rd w w.heap.size A (icells vals)) (hn : vals.length = n) (hn2 : n ≤ 48) (hk : k < 8) :
    Calls Try.prog 137 #[.int .i64 seq, .slice A n c, .int .i64 (k : Int)] w fun e w' => ∃ g cc, e = .returned (.slice (some ⟨g, 0, none⟩) 64 cc) ∧ w'.ownsRow w.heap.size 5 1 (.slice (some ⟨g, 0, none⟩) 64 cc) 64 (kcells .u8 (pageP seq vals k)) ∧ Below w.heap.size w w' := by
  obtain ⟨i5, hi5, hz50, hz51, hz52⟩ := info_parts info5
  have HA := Lib.hid hA
  have HN := Lib.hid hn
  clear hA hn
  go_enter Try.func137, Try.ntmps137
  go_wp2_with (fail)
  have HP6 : Hid (∀ w, Calls Try.prog 140 #[.int .i64 seq, .int .i64 6] w fun e w' => ∃ v, e = .returned v ∧ w'.ownsRow w.heap.size 5 1 v 6 (kcells .u8 (putB (asU seq) 6)) ∧ Below w.heap.size w w') := fun w => put_r seq 6 w (by omega) (by omega)
  have HP8 : Hid (∀ x w, Calls Try.prog 140 #[.int .i64 x, .int .i64 8] w fun e w' => ∃ v, e = .returned v ∧ w'.ownsRow w.heap.size 5 1 v 8 (kcells .u8 (putB (asU x) 8)) ∧ Below w.heap.size w w') := fun x w => put_r x 8 w (by omega) (by omega)
  have HP2 : Hid (∀ x w, Calls Try.prog 140 #[.int .i64 x, .int .i64 2] w fun e w' => ∃ v, e = .returned v ∧ w'.ownsRow w.heap.size 5 1 v 2 (kcells .u8 (putB (asU x) 2)) ∧ Below w.heap.size w w') := fun x w => put_r x 2 w (by omega) (by omega)
  obtain ⟨W, hW⟩ : ∃ W, w.alloc (.cells #[.int .u8 (k : Int), .int .u8 (n : Int)] 5) = W := ⟨_, rfl⟩
  have HO2 : Hid (W.ownsRow w.heap.size 5 1 (.slice (some ⟨w.heap.size, 0, none⟩) 2 2) 2 (kcells .u8 [(k : Int), (n : Int)])) := by
    rw [← hW]
    exact own_alloc rfl rfl (Nat.le_refl _) (by unfold maxLen; omega)
  have HBW : Hid (Below w.heap.size w W) := by rw [← hW]; exact (Below.refl _ _).alloc (Nat.le_refl _) _
  rw [hW]
  clear hW
  (with_reducible refine (HP6.out W).mono ?_)
  rintro e w1 ⟨v1, rfl, ho1, hb1⟩
  obtain ⟨A1, c1, rfl, h11, h12, _⟩ := own_form ho1
  have HR1 := Lib.hid (own_rd65 ho1)
  have HO1 := Lib.hid (own_below HO2.out hb1)
  have HB1 : Hid (Below w.heap.size w w1) := HBW.out.trans (hb1.mono HBW.out.size)
  have HL6 : Hid ((kcells .u8 (putB (asU seq) 6)).length = 6 * 1) := by rw [Hid, kcells_length, putB_length]
  clear ho1 hb1
  go_wp2_with (at_builtin; refine wpList_append_rd _ rfl _ _ 22 rfl w.heap.size 5 i5 (.int .u8 0) 1 1 Try.underlying22 hi5 hz50 hz51 hz52 rfl (by omega) _ 2 (kcells .u8 [(k : Int), (n : Int)]) rfl HO1.out w1.heap.size _ 6 c1 (kcells .u8 (putB (asU seq) 6)) rfl HR1.out HL6.out (kcells_one _ _) (by unfold maxLen; omega) (by omega) HB1.out.size ?_)
  intro v8 w8 hown8 hgrow8 _
  have HO8 : Hid (w8.ownsRow w.heap.size 5 1 v8 8 (kcells .u8 (growP seq vals k 0))) := by
    have e : growP seq vals k 0 = [(k : Int), (n : Int)] ++ putB (asU seq) 6 := by
      unfold growP headB
      rw [HN.out]
      simp
    rw [Hid, e, kcells_append]
    exact hown8
  have HB8 : Hid (Below w.heap.size w w8) := HB1.out.grown hgrow8 HB1.out.size (fun k hk => (HO1.out.lt k hk).1)
  clear hown8 hgrow8
  go_wp2
  go_loopw [7, 8] (fun v i wr => ∃ t q : Nat, t ≤ 6 ∧ q = 6 * k + t ∧ i = .int .i64 (q : Int) ∧ wr.ownsRow w.heap.size 5 1 v (8 + 8 * t) (kcells .u8 (growP seq vals k t)) ∧ Below w.heap.size w wr) (fun _ i _ => 6 * k + 6 - (intOf i).toNat)
  case atStart => exact ⟨0, 6 * k, by omega, by omega, by go_num, HO8.out, HB8.out⟩
  case round =>
    obtain ⟨t, q, ht, hq, rfl, hO, hB⟩ := hrel
    have HO := Lib.hid hO
    have HB := Lib.hid hB
    have HQ := Lib.hid hq
    clear hO hB
    by_cases hlt : t < 6
    · have hq1 : (q : Int) < 6 * (k : Int) + 6 := by omega
      clear hq
      by_cases hqn : q < n
      · obtain ⟨x, hx⟩ := getElem?_of_lt (l := vals) (k := q) (by rw [HN.out]; exact hqn)
        have HV : Hid (valB vals k t = putB (asU x) 8) := by
          unfold valB
          rw [Hid, ← HQ.out, hx]
        obtain ⟨ba, off, rfl, _, c0⟩ := (HA.out.below HB.out (Nat.le_refl _)).int hx
        clear hx
        go_wp2_with (fail)
        (with_reducible refine (HP8.out x wr).mono ?_)
        rintro e w3 ⟨v3, rfl, ho3, hb3⟩
        obtain ⟨A3, c3, rfl, h31, h32, _⟩ := own_form ho3
        have HR3 := Lib.hid (own_rd65 ho3)
        have HO3 := Lib.hid (own_below HO.out hb3)
        have HB3 : Hid (Below w.heap.size w w3) := HB.out.trans (hb3.mono HB.out.size)
        have HL8 : Hid ((kcells .u8 (putB (asU x) 8)).length = 8 * 1) := by rw [Hid, kcells_length, putB_length]
        clear ho3 hb3
        go_wp2_with (at_builtin; refine wpList_append_rd _ rfl _ _ 22 rfl w.heap.size 5 i5 (.int .u8 0) 1 1 Try.underlying22 hi5 hz50 hz51 hz52 rfl (by omega) _ (8 + 8 * t) (kcells .u8 (growP seq vals k t)) rfl HO3.out w3.heap.size _ 8 c3 (kcells .u8 (putB (asU x) 8)) rfl HR3.out HL8.out (kcells_one _ _) (by unfold maxLen; omega) (by omega) HB3.out.size ?_)
        intro v9 w9 hown9 hgrow9 _
        have HO9 : Hid (w9.ownsRow w.heap.size 5 1 v9 (8 + 8 * (t + 1)) (kcells .u8 (growP seq vals k (t + 1)))) := by
          rw [Hid, growP_succ, HV.out, kcells_append]
          exact hown9
        have HB9 : Hid (Below w.heap.size w w9) := HB3.out.grown hgrow9 HB3.out.size (fun k hk => (HO3.out.lt k hk).1)
        clear hown9 hgrow9
        go_wp2
        go_roundw
        case rel => exact ⟨t + 1, q + 1, by omega, by have := HQ.out; omega, by go_num, HO9.out, HB9.out⟩
        case measure => simp [intOf]; omega
      · have HV : Hid (valB vals k t = putB (asU 0) 8) := by
          unfold valB
          rw [Hid, ← HQ.out, List.getElem?_eq_none (by rw [HN.out]; omega)]
          decide
        go_wp2_with (fail)
        (with_reducible refine (HP8.out 0 wr).mono ?_)
        rintro e w3 ⟨v3, rfl, ho3, hb3⟩
        obtain ⟨A3, c3, rfl, h31, h32, _⟩ := own_form ho3
        have HR3 := Lib.hid (own_rd65 ho3)
        have HO3 := Lib.hid (own_below HO.out hb3)
        have HB3 : Hid (Below w.heap.size w w3) := HB.out.trans (hb3.mono HB.out.size)
        have HL8 : Hid ((kcells .u8 (putB (asU 0) 8)).length = 8 * 1) := by rw [Hid, kcells_length, putB_length]
        clear ho3 hb3
        go_wp2_with (at_builtin; refine wpList_append_rd _ rfl _ _ 22 rfl w.heap.size 5 i5 (.int .u8 0) 1 1 Try.underlying22 hi5 hz50 hz51 hz52 rfl (by omega) _ (8 + 8 * t) (kcells .u8 (growP seq vals k t)) rfl HO3.out w3.heap.size _ 8 c3 (kcells .u8 (putB (asU 0) 8)) rfl HR3.out HL8.out (kcells_one _ _) (by unfold maxLen; omega) (by omega) HB3.out.size ?_)
        intro v9 w9 hown9 hgrow9 _
        have HO9 : Hid (w9.ownsRow w.heap.size 5 1 v9 (8 + 8 * (t + 1)) (kcells .u8 (growP seq vals k (t + 1)))) := by
          rw [Hid, growP_succ, HV.out, kcells_append]
          exact hown9
        have HB9 : Hid (Below w.heap.size w w9) := HB3.out.grown hgrow9 HB3.out.size (fun k hk => (HO3.out.lt k hk).1)
        clear hown9 hgrow9
        go_wp2
        go_roundw
        case rel => exact ⟨t + 1, q + 1, by omega, by have := HQ.out; omega, by go_num, HO9.out, HB9.out⟩
        case measure => simp [intOf]; omega
    · obtain rfl : t = 6 := by omega
      have hq1 : ¬ (q : Int) < 6 * (k : Int) + 6 := by omega
      clear hq
      go_wp2_with (at_builtin; refine wpList_append_rd _ rfl _ _ 22 rfl w.heap.size 5 i5 (.int .u8 0) 1 1 Try.underlying22 hi5 hz50 hz51 hz52 rfl (by omega) _ 56 (kcells .u8 (growP seq vals k 6)) rfl (own_below HO.out ((Below.refl _ _).alloc (Nat.le_refl _) _)) (wr.heap.size + 1) _ 6 6 (kcells .u8 [0, 0, 0, 0, 0, 0]) rfl (Rd.new wr _ _ _ rfl) rfl (kcells_one _ _) (by unfold maxLen; omega) (by omega) (by have := HB.out.size; simp; omega) ?_)
      intro v9 w9 hown9 hgrow9 _
      have ho9 : w9.ownsRow w.heap.size 5 1 v9 62 (kcells .u8 (bodyP seq vals k)) := by
        rw [← growP_body, kcells_append]
        exact hown9
      have HB9 : Hid (Below w.heap.size w w9) := (HB.out.alloc HB.out.size _).grown hgrow9 (by have := HB.out.size; simp; omega) (fun k hk => (HO.out.lt k hk).1)
      obtain ⟨A9, c9, rfl, h91, h92, _⟩ := own_form ho9
      have HO9 := Lib.hid ho9
      have HZ := Lib.hid (zeros_r A9 62 c9 (bodyP seq vals k) w9 (own_rd65 ho9) (bodyP_length _ _ _) (bodyI_bytes seq vals k 6 (by omega) (by rw [HN.out]; omega)) (by omega))
      obtain ⟨z, hz⟩ : ∃ z, zerosB (bodyP seq vals k) = z := ⟨_, rfl⟩
      have hzr := zeros_range (bodyP seq vals k)
      rw [bodyP_length, hz] at hzr
      have zw : asU z = z := by rw [asU_eq]; omega
      have HPZ : Hid (bodyP seq vals k ++ putB (asU z) 2 = pageP seq vals k) := by rw [Hid, zw, ← hz]; rfl
      rw [hz] at HZ
      clear hown9 hgrow9 ho9 hz zw
      go_wp2_with (fail)
      (with_reducible refine HZ.out.mono ?_)
      rintro e w10 ⟨rfl, rfl⟩
      go_wp2_with (fail)
      (with_reducible refine (HP2.out z _).mono ?_)
      rintro e w11 ⟨v11, rfl, ho11, hb11⟩
      obtain ⟨A11, c11, rfl, h111, h112, _⟩ := own_form ho11
      have HR11 := Lib.hid (own_rd65 ho11)
      have HO11 := Lib.hid (own_below HO9.out hb11)
      have HB11 : Hid (Below w.heap.size w w11) := HB9.out.trans (hb11.mono HB9.out.size)
      have HL2 : Hid ((kcells .u8 (putB (asU z) 2)).length = 2 * 1) := by rw [Hid, kcells_length, putB_length]
      clear ho11 hb11
      go_wp2_with (at_builtin; refine wpList_append_rd _ rfl _ _ 22 rfl w.heap.size 5 i5 (.int .u8 0) 1 1 Try.underlying22 hi5 hz50 hz51 hz52 rfl (by omega) _ 62 (kcells .u8 (bodyP seq vals k)) rfl HO11.out w11.heap.size _ 2 c11 (kcells .u8 (putB (asU z) 2)) rfl HR11.out HL2.out (kcells_one _ _) (by unfold maxLen; omega) (by omega) HB11.out.size ?_)
      intro v12 w12 hown12 hgrow12 _
      have ho12 : w12.ownsRow w.heap.size 5 1 v12 64 (kcells .u8 (pageP seq vals k)) := by
        rw [← HPZ.out, kcells_append]
        exact hown12
      have HB12 : Hid (Below w.heap.size w w12) := HB11.out.grown hgrow12 HB11.out.size (fun k hk => (HO11.out.lt k hk).1)
      obtain ⟨A12, c12, rfl, _, _, hg12⟩ := own_form ho12
      obtain ⟨g12, rfl, _, _⟩ := hg12 (by omega)
      have HO12 := Lib.hid ho12
      clear hown12 hgrow12 ho12
      go_wp2
      go_ret
      exact ⟨g12, c12, rfl, HO12.out, HB12.out⟩

/-- The pages that have been made. -/
structure EncJ (w wr : World) (v : Value) (vs : List Value) (seq : Int) (vals : List Int) (k : Nat) : Prop where
  own : wr.ownsRow w.heap.size 22 1 v k vs
  pg : ∀ i, i < k → ∃ g c, vs[i]? = some (.slice (some ⟨g, 0, none⟩) 64 c) ∧ wr.ownsRow w.heap.size 5 1 (.slice (some ⟨g, 0, none⟩) 64 c) 64 (kcells .u8 (pageP seq vals i))
  below : Below w.heap.size w wr
theorem EncJ.later {w wr w' : World} {v : Value} {vs : List Value} {seq : Int} {vals : List Int} {k : Nat} (h : EncJ w wr v vs seq vals k) (hb : Below wr.heap.size wr w') : EncJ w w' v vs seq vals k :=
  ⟨own_below h.own hb, fun i hi => by
    obtain ⟨g, c, h1, h2⟩ := h.pg i hi
    exact ⟨g, c, h1, own_below h2 hb⟩, h.below.trans (hb.mono h.below.size)⟩
theorem EncJ.push {w W W' : World} {v v' : Value} {vs : List Value} {seq : Int} {vals : List Int} {k g c : Nat} {o : Obj} (h : EncJ w W v vs seq vals k)
    (hp : W.ownsRow w.heap.size 5 1 (.slice (some ⟨g, 0, none⟩) 64 c) 64 (kcells .u8 (pageP seq vals k)))
    (ho : W'.ownsRow w.heap.size 22 1 v' (k + 1) (vs ++ [.slice (some ⟨g, 0, none⟩) 64 c])) (hg : (W.alloc o).grownBy W' v.ownBlock) : EncJ w W' v' (vs ++ [.slice (some ⟨g, 0, none⟩) 64 c]) seq vals (k + 1) := by
  have hb : Below W.heap.size W (W.alloc o) := (Below.refl _ _).alloc (Nat.le_refl _) o
  have h1 := h.later hb
  have hp1 := own_below hp hb
  have hl : vs.length = k := by have := h.own.1; simpa using this
  refine ⟨ho, fun i hi => ?_, h1.below.grown hg h1.below.size (fun k hk => (h1.own.lt k hk).1)⟩
  by_cases e : i = k
  · subst e
    exact ⟨g, c, by rw [List.getElem?_append_right (by omega), hl]; simp, kept_of hp1 hg (fun g' hg' e' => own_ne_own h1.own hp1 (by decide) g' e' hg')⟩
  · obtain ⟨g', c', a1, a2⟩ := h1.pg i (by omega)
    exact ⟨g', c', by rw [List.getElem?_append_left (by omega)]; exact a1, kept_of a2 hg (fun g2 hg' e' => own_ne_own h1.own a2 (by decide) g2 e' hg')⟩
theorem EncJ.rd {w wr : World} {A : Option Addr} {n c : Nat} {vs : List Value} {seq : Int} {vals : List Int} (h : EncJ w wr (.slice A n c) vs seq vals n) (hn : n = pgs vals.length) (X : Nat → Prop) (hX : ∀ b, X b → b < w.heap.size) : RdP X wr A (encP seq vals) := by
  have hl : vs.length = n := by have := h.own.1; simpa using this
  refine ⟨vs, rdx_own hl h.own hX, by rw [encP_length, hl, hn], fun i p hp => ?_⟩
  have hi : i < pgs vals.length := by rw [← encP_length seq vals]; exact (List.getElem?_eq_some_iff.1 hp).1
  rw [encP_get seq vals i hi] at hp
  injection hp with hp
  subst hp
  obtain ⟨g, c, a1, a2⟩ := h.pg i (by omega)
  obtain ⟨A', c', e, h1, h2, _⟩ := own_form a2
  injection e with _ _ e3
  subst e3
  exact ⟨_, 64, c, a1, pageP_length _ _ _, h1, h2, rdx_own (by rw [kcells_length, pageP_length]) a2 hX⟩

theorem enc_rno (seq : Int) (A : Option Addr) (n c : Nat) (w : World) (hn : n < 1000000000000) (h : encE seq n ≠ 0) :
    Calls Try.prog 130 #[.int .i64 seq, .slice A n c] w fun e w' => e = .returned (.tuple #[.slice none 0 0, .int .i64 3]) ∧ w = w' := by
  have hc : seq < 1 ∨ (¬ seq < 1 ∧ 1099511627776 < seq) ∨ (¬ seq < 1 ∧ ¬ 1099511627776 < seq ∧ n < 1) ∨ (¬ seq < 1 ∧ ¬ 1099511627776 < seq ∧ ¬ n < 1 ∧ 48 < n) := by
    unfold encE at h
    split at h
    · omega
    · exact absurd rfl h
  clear h
  rcases hc with h1 | ⟨h1, h2⟩ | ⟨h1, h2, h3⟩ | ⟨h1, h2, h3, h4⟩
  all_goals
    go_enter Try.func130, Try.ntmps130
    go_wp2
    go_ret2
    exact ⟨rfl, rfl⟩
set_option maxRecDepth 100000 in
set_option maxHeartbeats 4000000 in
theorem enc_ryes (X : Nat → Prop) (seq : Int) (A : Option Addr) (n c : Nat) (vals : List Int) (w : World) (hX : ∀ b, X b → b < w.heap.size) (hA : Rd w w.heap.size A (icells vals)) (hn : vals.length = n) (h : encE seq n = 0) :
    Calls Try.prog 130 #[.int .i64 seq, .slice A n c] w fun e w' => ∃ A' c', e = .returned (.tuple #[.slice A' (pgs n) c', .int .i64 0]) ∧ pgs n ≤ c' ∧ c' ≤ maxLen ∧ RdP X w' A' (encP seq vals) ∧ Below w.heap.size w w' := by
  obtain ⟨s1, s2, n1, n2⟩ := encE_zero h
  have HA := Lib.hid hA
  have HN := Lib.hid hn
  have HX := Lib.hid hX
  have HPG := Lib.hid (fun w => pages_r n (by omega) w)
  obtain ⟨P, hP⟩ : ∃ P, pgs n = P := ⟨_, rfl⟩
  have HP := Lib.hid hP
  have hP8 : P ≤ 8 := by rw [← hP]; exact pgs_le n2
  rw [hP] at HPG
  rw [hP]
  obtain ⟨i23, hi, hz0, hz1, hz2⟩ := info_parts info23
  have hs1 : ¬ seq < 1 := by omega
  have hs2 : ¬ 1099511627776 < seq := by omega
  clear hA hn hX h hP
  go_enter Try.func130, Try.ntmps130
  go_wp2_with (fail)
  (with_reducible refine (HPG.out w).mono ?_)
  rintro e w1 ⟨rfl, rfl⟩
  go_wp2
  go_loopw [6, 27] (fun v i wr => ∃ (k : Nat) (vs : List Value), k ≤ P ∧ i = .int .i64 k ∧ EncJ w wr v vs seq vals k) (fun _ i _ => P - (intOf i).toNat)
  case atStart => exact ⟨0, [], Nat.zero_le _, rfl, World.ownsRow_nil _ _ _ _, fun i hi => by omega, Below.refl _ _⟩
  case round =>
    obtain ⟨k, vs, hk, rfl, hI⟩ := hrel
    have HI := Lib.hid hI
    clear hI
    by_cases hlt : k < P
    · have HPR := Lib.hid (page_r seq A n c vals k wr ((HA.out.below HI.out.below (Nat.le_refl _)).more HI.out.below.size) HN.out n2 (by omega))
      go_wp2_with (fail)
      (with_reducible refine HPR.out.mono ?_)
      rintro e w6 ⟨g, cc, rfl, ho6, hb6⟩
      have HI6 := Lib.hid (HI.out.later hb6)
      have HOB : Hid (w6.ownsRow w.heap.size 5 1 (.slice (some ⟨g, 0, none⟩) 64 cc) 64 (kcells .u8 (pageP seq vals k))) := own_low ho6 HI.out.below.size
      clear ho6 hb6
      go_wp2_with (at_builtin; refine wpList_append_own _ rfl _ _ 44 rfl w.heap.size 22 i23 (.slice none 0 0) 1 24 Try.underlying44 hi hz0 hz1 hz2 rfl (by omega) _ _ _ rfl (own_below HI6.out.own ((Below.refl _ _).alloc (Nat.le_refl _) _)) ⟨w6.heap.size, 0, none⟩ 1 1 [.slice (some ⟨g, 0, none⟩) 64 cc] rfl rfl (cell_one_new _ _ _) (by simp [Value.oneCell']) (by unfold maxLen; omega) (by omega) (by have := HI6.out.below.size; simp; omega) ?_)
      intro v' w8 hown8 hgrow8 _
      have HI8 := Lib.hid (HI6.out.push HOB.out hown8 hgrow8)
      clear hown8 hgrow8
      go_wp2
      go_roundw
      case rel => exact ⟨k + 1, _, by omega, by go_num, HI8.out⟩
      case measure => simp [intOf]; omega
    · have hkn : k = P := by omega
      subst hkn
      obtain ⟨A', c', rfl, h1, h2, _⟩ := own_read HI.out.own
      have HR := Lib.hid (HI.out.rd (by rw [HN.out, HP.out]) X HX.out)
      have HH := Lib.hid (And.intro h1 h2)
      clear h1 h2
      go_wp2
      go_ret2
      exact ⟨A', c', rfl, HH.out.1, HH.out.2, HR.out, HI.out.below⟩
end Go.Proofs.Ytjdknddnanopaaa
