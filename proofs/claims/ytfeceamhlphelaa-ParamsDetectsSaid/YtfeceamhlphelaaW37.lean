/-
  Params: EqualFunc, Equal of ints, Decode.
-/
import Derived.Test.YtfeceamhlphelaaW36
import Derived.Test.YtfeceamhlphelaaW16
import Derived.Test.YtfeceamhlphelaaPlainD
namespace Go.Proofs.Ytfeceamhlphelaa
open Go.RowKit
set_option linter.unusedVariables false

theorem takeP_step {l m : List (List Int)} {k : Nat} {x y : List Int} (hx : l[k]? = some x) (hy : m[k]? = some y) (h : l.take k = m.take k) (e : x = y) : l.take (k + 1) = m.take (k + 1) := by
  rw [take_snoc_get l k x hx, take_snoc_get m k y hy, h, e]
theorem RdP.get {X : Nat → Prop} {w : World} {A : Option Addr} {ps : List (List Int)} (h : RdP X w A ps) {i : Nat} {p : List Int} (hp : ps[i]? = some p) :
    ∃ b off Q c, A = some ⟨b, off, none⟩ ∧ b < w.heap.size ∧ w.cell? ⟨b, off + i, none⟩ = some (.slice Q p.length c) ∧ p.length ≤ c ∧ c ≤ maxLen ∧ RdX X w Q (kcells .u8 p) := by
  obtain ⟨vs, h1, h2, h3⟩ := h
  obtain ⟨Q, m, c, e1, rfl, e3, e4, e5⟩ := h3 i p hp
  obtain ⟨b, off, rfl, hlt, _, hc⟩ := h1 (by intro e; rw [e] at e1; simp at e1)
  exact ⟨b, off, Q, c, rfl, hlt, hc i _ e1, e3, e4, e5⟩
theorem RdP.drew {X : Nat → Prop} {w : World} {A : Option Addr} {ps : List (List Int)} (h : RdP X w A ps) (q : Nat) : RdP X (w.drewN q) A ps := h.onlyX (.of_below (Below.drewN (Below.refl _ _) q))
theorem RdP.below {X : Nat → Prop} {w w' : World} {A : Option Addr} {ps : List (List Int)} (h : RdP X w A ps) (hb : Below w.heap.size w w') : RdP X w' A ps := h.onlyX (.of_below hb)

set_option maxHeartbeats 2000000 in
theorem eqfunc_any {X Y : Nat → Prop} (A B : Option Addr) (n m c d : Nat) (a b : List (List Int)) (w : World) (hA : RdP X w A a) (hB : RdP Y w B b) (hn : a.length = n) (hm : b.length = m) (ha : ∀ p ∈ a, Bytes p) (hb : ∀ p ∈ b, Bytes p) (hnm : n ≤ maxLen) (hmm : m ≤ maxLen) :
    Calls Try.prog 89 #[.slice A n c, .slice B m d, .func (.func 90) #[] #[]] w fun e w' => e = .returned (.bool (decide (a = b))) ∧ w = w' := by
  unfold maxLen at hnm hmm
  have HN := Lib.hid hn
  have HM := Lib.hid hm
  have HBA := Lib.hid ha
  have HBB := Lib.hid hb
  clear hn hm ha hb
  by_cases hne : n = m
  · subst hne
    have HA := Lib.hid hA
    have HB := Lib.hid hB
    clear hA hB
    have hne : ((n : Int) != (n : Int)) = false := by simp
    go_enter Try.func89, Try.ntmps89
    go_wp2
    go_loopw [17] (fun i wr => ∃ k : Nat, k ≤ n ∧ i = .int .i64 k ∧ a.take k = b.take k ∧ w = wr) (fun i wr => n - (intOf i).toNat)
    case atStart => exact ⟨0, Nat.zero_le _, rfl, rfl, rfl⟩
    case round =>
      obtain ⟨k, hk, rfl, ht, rfl⟩ := hrel
      have HT := Lib.hid ht
      clear ht
      by_cases hlt : k < n
      · obtain ⟨x, hx⟩ := getElem?_of_lt (l := a) (k := k) (by rw [HN.out]; exact hlt)
        obtain ⟨y, hy⟩ := getElem?_of_lt (l := b) (k := k) (by rw [HM.out]; exact hlt)
        obtain ⟨b1, o1, Q1, c1, rfl, _, e1, _, _, r1⟩ := HA.out.get hx
        obtain ⟨b2, o2, Q2, c2, rfl, _, e2, _, _, r2⟩ := HB.out.get hy
        have HE := Lib.hid (equal_any Q1 Q2 x.length y.length c1 c2 x y w r1.rd r2.rd rfl rfl (HBA.out x (List.mem_of_getElem? hx)) (HBB.out y (List.mem_of_getElem? hy)))
        have HX := Lib.hid hx
        have HY := Lib.hid hy
        generalize x.length = lx at *
        generalize y.length = ly at *
        clear hx hy r1 r2
        by_cases he : x = y
        · rw [decide_eq_true he] at HE
          have HQ := Lib.hid he
          clear he
          go_wp2_with (fail)
          (with_reducible refine HE.out.mono ?_)
          rintro e w1 ⟨rfl, rfl⟩
          go_wp2
          go_roundw
          case rel => exact ⟨k + 1, by omega, by go_num, takeP_step HX.out HY.out HT.out HQ.out, by first | rfl | trivial⟩
          case measure => simp [intOf]; omega
        · rw [decide_eq_false he] at HE
          have HF : Hid (decide (a = b) = false) := decide_eq_false (fun e => he (by
            have h1 := HX.out
            rw [e, HY.out] at h1
            exact (Option.some.inj h1).symm))
          clear he
          go_wp2_with (fail)
          (with_reducible refine HE.out.mono ?_)
          rintro e w1 ⟨rfl, rfl⟩
          go_wp2
          go_ret
          exact ⟨by rw [HF.out]; rfl, rfl⟩
      · have hkn : k = n := by omega
        subst hkn
        have HF : Hid (decide (a = b) = true) := decide_eq_true (by
          have h1 := HT.out
          rwa [List.take_of_length_le (by rw [HN.out]; omega), List.take_of_length_le (by rw [HM.out]; omega)] at h1)
        go_wp2
        go_ret
        exact ⟨by rw [HF.out]; rfl, rfl⟩
  · have hne' : ((n : Int) != (m : Int)) = true := by simp; omega
    have HF : Hid (decide (a = b) = false) := decide_eq_false (fun e => hne (by rw [← HN.out, ← HM.out, e]))
    clear hne
    go_enter Try.func89, Try.ntmps89
    go_wp2
    go_ret
    exact ⟨by rw [HF.out]; rfl, rfl⟩

set_option maxHeartbeats 2000000 in
theorem equal3_any (A A' : Option Addr) (n m c c' : Nat) (l l' : List Int) (w : World) (hA : Rd w w.heap.size A (icells l)) (hA' : Rd w w.heap.size A' (icells l')) (hn : l.length = n) (hm : l'.length = m) (hnm : n ≤ maxLen) (hmm : m ≤ maxLen) :
    Calls Try.prog 100 #[.slice A n c, .slice A' m c'] w fun e w' => e = .returned (.bool (decide (l = l'))) ∧ ∃ k, w' = w.drewN k := by
  unfold maxLen at hnm hmm
  have HN := Lib.hid hn
  have HM := Lib.hid hm
  clear hn hm
  by_cases hne : n = m
  · subst hne
    have HA := Lib.hid hA
    have HA' := Lib.hid hA'
    clear hA hA'
    have hne : ((n : Int) != (n : Int)) = false := by simp
    go_enter Try.func100, Try.ntmps100
    go_wp2
    go_loopw [13] (fun i wr => ∃ k : Nat, k ≤ n ∧ i = .int .i64 k ∧ l.take k = l'.take k ∧ ∃ q, wr = w.drewN q) (fun i wr => n - (intOf i).toNat)
    case atStart => exact ⟨0, Nat.zero_le _, rfl, rfl, 0, rfl⟩
    case round =>
      obtain ⟨k, hk, rfl, ht, q, rfl⟩ := hrel
      have HT := Lib.hid ht
      clear ht
      by_cases hlt : k < n
      · obtain ⟨x, hx⟩ := getElem?_of_lt (l := l) (k := k) (by rw [HN.out]; exact hlt)
        obtain ⟨y, hy⟩ := getElem?_of_lt (l := l') (k := k) (by rw [HM.out]; exact hlt)
        obtain ⟨b, off, rfl, hbl, e0⟩ := HA.out.int hx
        obtain ⟨b', off', rfl, hbl', e1⟩ := HA'.out.int hy
        have HX := Lib.hid hx
        have HY := Lib.hid hy
        clear hx hy
        by_cases he : x = y
        · have he' : (x != y) = false := by simpa using he
          have HE := Lib.hid he
          clear he
          go_wp2
          go_quiet (fail)
          go_wp2
          go_roundw
          case rel => exact ⟨k + 1, by omega, by go_num, take_eq_step HX.out HY.out HT.out HE.out, _, rfl⟩
          case measure => simp [intOf]; omega
        · have he' : (x != y) = true := by simpa using he
          have HE : Hid (decide (l = l') = false) := decide_eq_false (fun e => he (by
            have h1 := HX.out
            rw [e, HY.out] at h1
            exact (Option.some.inj h1).symm))
          clear he
          go_wp2
          go_quiet (fail)
          go_wp2
          go_ret
          exact ⟨by rw [HE.out]; rfl, _, World.drewN_drewN ..⟩
      · have hkn : k = n := by omega
        subst hkn
        have HE : Hid (decide (l = l') = true) := decide_eq_true (by
          have h1 := HT.out
          rwa [List.take_of_length_le (by rw [HN.out]; omega), List.take_of_length_le (by rw [HM.out]; omega)] at h1)
        go_wp2
        go_ret
        exact ⟨by rw [HE.out]; rfl, _, rfl⟩
  · have hne' : ((n : Int) != (m : Int)) = true := by simp; omega
    have HE : Hid (decide (l = l') = false) := decide_eq_false (fun e => hne (by rw [← HN.out, ← HM.out, e]))
    clear hne
    go_enter Try.func100, Try.ntmps100
    go_wp2
    go_ret
    exact ⟨by rw [HE.out]; rfl, 0, rfl⟩
end Go.Proofs.Ytfeceamhlphelaa
