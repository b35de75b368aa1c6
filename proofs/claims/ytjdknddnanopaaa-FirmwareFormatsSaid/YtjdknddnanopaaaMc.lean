
/-
  Several texts in one: W33, W34, W35, MemS, W36, W37, W38, W39, W40, W41.
-/
import Derived.Test.YtjdknddnanopaaaMa
import Derived.Test.YtjdknddnanopaaaMb
import Derived.Lib.Tables
import Derived.Lib.BitFns
import Derived.Laws.Bits64b
import Derived.Laws.BitsLemmas
/-
  Params: within, the number of pages, a number's bytes, the bits that are 0.
-/
namespace Go.Proofs.Ytjdknddnanopaaa
open Go.RowKit
set_option linter.unusedVariables false

theorem within51 (n lo hi : Int) (w : World) : Calls Try.prog 109 #[.int .i64 n, .int .i64 lo, .int .i64 hi] w fun e w' => e = .returned (.bool (decide (lo ≤ n ∧ n ≤ hi))) ∧ w = w' := by
  by_cases h1 : lo ≤ n
  · have d1 : decide (lo ≤ n) = true := by simpa using h1
    by_cases h2 : n ≤ hi
    · have d2 : decide (n ≤ hi) = true := by simpa using h2
      rw [decide_eq_true (show lo ≤ n ∧ n ≤ hi from ⟨h1, h2⟩)]
      go_enter Try.func109, Try.ntmps109
      go_wp2
      go_ret
      exact ⟨rfl, rfl⟩
    · have d2 : decide (n ≤ hi) = false := by simpa using h2
      rw [decide_eq_false (show ¬ (lo ≤ n ∧ n ≤ hi) from fun h => h2 h.2)]
      go_enter Try.func109, Try.ntmps109
      go_wp2
      go_ret
      exact ⟨rfl, rfl⟩
  · have d1 : decide (lo ≤ n) = false := by simpa using h1
    rw [decide_eq_false (show ¬ (lo ≤ n ∧ n ≤ hi) from fun h => h1 h.1)]
    go_enter Try.func109, Try.ntmps109
    go_wp2
    go_ret
    exact ⟨rfl, rfl⟩

theorem pgs_any (n : Nat) (hn : n < 1000000000000) (w : World) : Calls Try.prog 122 #[.int .i64 (n : Int)] w fun e w' => e = .returned (.int .i64 (pgs n : Nat)) ∧ w = w' := by
  have e4 : (((n : Int)) + 6 - 1) / 6 = ((pgs n : Nat) : Int) := by unfold pgs; omega
  go_enter Try.func122, Try.ntmps122
  go_wp2
  go_ret
  refine ⟨?_, rfl⟩
  show Ending.returned (Value.int .i64 (((n : Int) + 6 - 1) / 6)) = _
  rw [e4]

/-- The complement of a byte. -/
theorem pop_not : ∀ n : Fin 256, Lib.pop8 (255 - (n.val : Int)) = zcB n.val := by decide +kernel
theorem pop_not' {x : Int} (h : 0 ≤ x ∧ x < 256) : Lib.pop8 (255 - x) = zcB x := by
  have := pop_not ⟨x.toNat, by omega⟩
  simp only [Int.toNat_of_nonneg h.1] at this
  exact this
theorem not_u8 : ∀ n : Fin 256, bits .xor .u8 IntKind.u8.max (n.val : Int) = 255 - (n.val : Int) := by decide +kernel
theorem not_u8' {x : Int} (h : 0 ≤ x ∧ x < 256) : bits .xor .u8 IntKind.u8.max x = 255 - x := by
  have := not_u8 ⟨x.toNat, by omega⟩
  simp only [Int.toNat_of_nonneg h.1] at this
  exact this
theorem ones_any (x : Int) (h : 0 ≤ x ∧ x < 256) (w : World) : Calls Try.prog 139 #[.int .u8 (bits .xor .u8 IntKind.u8.max x)] w fun e w' => e = .returned (.int .i64 (zcB x)) ∧ w = w' := by
  rw [not_u8' h]
  have e1 := pop_not' h
  have e2 := zcB_range (x := x)
  have h0 : 0 ≤ 255 - x := by omega
  have h1 : 255 - x ≤ 255 := by omega
  have e3 : (Lib.pop8 (255 - x) + 9223372036854775808) % 18446744073709551616 - 9223372036854775808 = zcB x := by rw [e1]; omega
  generalize zcB x = Z at *
  generalize 255 - x = y at *
  go_enter Try.func139, Try.ntmps139
  go_wp2
  go_ret
  refine ⟨?_, rfl⟩
  rw [← e3]
  rfl

set_option maxRecDepth 100000 in
theorem zeros_any (A : Option Addr) (n c : Nat) (b : List Int) (w : World) (hA : Rd w w.heap.size A (kcells .u8 b)) (hn : b.length = n) (hb : Bytes b) (hn2 : n ≤ 1000000) :
    Calls Try.prog 134 #[.slice A n c] w fun e w' => e = .returned (.int .i64 (zerosB b)) ∧ w = w' := by
  have HA := Lib.hid hA
  have HN := Lib.hid hn
  have HB := Lib.hid hb
  clear hA hn hb
  go_enter Try.func134, Try.ntmps134
  go_wp2
  go_loopw [3, 8] (fun z i wr => ∃ k : Nat, k ≤ n ∧ i = .int .i64 k ∧ z = .int .i64 (zerosB (b.take k)) ∧ w = wr) (fun _ i _ => n - (intOf i).toNat)
  case atStart => exact ⟨0, by omega, rfl, by simp [zerosB], rfl⟩
  case round =>
    obtain ⟨k, hk, rfl, rfl, rfl⟩ := hrel
    by_cases hlt : k < n
    · obtain ⟨x, hx⟩ := getElem?_of_lt (l := b) (k := k) (by rw [HN.out]; exact hlt)
      have hxb := HB.out x (List.mem_of_getElem? hx)
      obtain ⟨ba, off, rfl, _, c0⟩ := HA.out.kint hx
      have HT : Hid (zerosB (b.take (k + 1)) = zerosB (b.take k) + zcB x) := by rw [Hid, take_snoc_get b k x hx, zeros_step]
      have hz := zeros_range (b.take k)
      rw [List.length_take, HN.out] at hz
      have hzc := zcB_range (x := x)
      have HO := Lib.hid (fun w => ones_any x hxb w)
      generalize zerosB (b.take k) = Z at *
      clear hx hxb
      go_wp2_with (fail)
      (with_reducible refine (HO.out w).mono ?_)
      rintro e w1 ⟨rfl, rfl⟩
      go_wp2
      go_roundw
      case rel => exact ⟨k + 1, by omega, by go_num, by rw [HT.out], by first | rfl | trivial⟩
      case measure => simp [intOf]; omega
    · have hkn : k = n := by omega
      subst hkn
      have e : b.take k = b := by rw [← HN.out]; exact List.take_length
      rw [e]
      go_wp2
      go_ret
      exact ⟨rfl, rfl⟩

set_option maxRecDepth 100000 in
theorem shl_or {n x : Int} (hn : 0 ≤ n ∧ n < 18446744073709551616) (hx : 0 ≤ x ∧ x < 256) : bits .or .u64 (n * 256 % 18446744073709551616) x = (n * 256 + x) % 18446744073709551616 := by
  obtain ⟨N, rfl⟩ := Int.eq_ofNat_of_zero_le hn.1
  obtain ⟨X, rfl⟩ := Int.eq_ofNat_of_zero_le hx.1
  have e : (N : Int) * 256 % 18446744073709551616 = ((N * 256 % 18446744073709551616 : Nat) : Int) := by omega
  rw [e, u64_or_nat _ _ (by omega) (by omega), nat_join 8 _ _ (by omega) (by omega)]
  omega

set_option maxRecDepth 100000 in
theorem number_any (A : Option Addr) (n c : Nat) (b : List Int) (w : World) (hA : Rd w w.heap.size A (kcells .u8 b)) (hn : b.length = n) (hb : Bytes b) (hn2 : n ≤ 1000000) :
    Calls Try.prog 124 #[.slice A n c] w fun e w' => e = .returned (.int .u64 (numB b)) ∧ w = w' := by
  have HA := Lib.hid hA
  have HN := Lib.hid hn
  have HB := Lib.hid hb
  clear hA hn hb
  go_enter Try.func124, Try.ntmps124
  go_wp2
  go_loopw [3, 8] (fun z i wr => ∃ k : Nat, k ≤ n ∧ i = .int .i64 k ∧ z = .int .u64 (numB (b.take k)) ∧ w = wr) (fun _ i _ => n - (intOf i).toNat)
  case atStart => exact ⟨0, by omega, rfl, by simp [numB], rfl⟩
  case round =>
    obtain ⟨k, hk, rfl, rfl, rfl⟩ := hrel
    by_cases hlt : k < n
    · obtain ⟨x, hx⟩ := getElem?_of_lt (l := b) (k := k) (by rw [HN.out]; exact hlt)
      have hxb := HB.out x (List.mem_of_getElem? hx)
      obtain ⟨ba, off, rfl, _, c0⟩ := HA.out.kint hx
      have HT : Hid (numB (b.take (k + 1)) = (numB (b.take k) * 256 + x) % 18446744073709551616) := by rw [Hid, take_snoc_get b k x hx, num_step]
      have hz := num_range (b.take k)
      have HO := Lib.hid (shl_or hz hxb)
      generalize numB (b.take k) = Z at *
      have q1 := hxb.1
      have q2 := hxb.2
      clear hx hxb
      go_wp2
      go_roundw
      case rel => exact ⟨k + 1, by omega, by go_num, by rw [HT.out, ← HO.out]; rfl, by first | rfl | trivial⟩
      case measure => simp [intOf]; omega
    · have hkn : k = n := by omega
      subst hkn
      have e : b.take k = b := by rw [← HN.out]; exact List.take_length
      rw [e]
      go_wp2
      go_ret
      exact ⟨rfl, rfl⟩
end Go.Proofs.Ytjdknddnanopaaa

/-
  Params: put; Encode.
-/
namespace Go.Proofs.Ytjdknddnanopaaa
open Go.RowKit
set_option linter.unusedVariables false

theorem putB_get (n : Int) (m j : Nat) (hj : j < m) : (putB n m)[j]? = some (n / 256 ^ (m - 1 - j) % 256) := by
  unfold putB
  rw [List.getElem?_map, List.getElem?_range hj]
  rfl
theorem pow_256 (d : Nat) : (2 : Int) ^ (8 * d) = 256 ^ d := by rw [Int.pow_mul]; rfl

set_option maxRecDepth 100000 in
theorem put_any (base g N cap lo m c : Nat) (l : List Int) (n : Int) (w : World) (h : w.ownsRow base 5 1 (.slice (some ⟨g, 0, none⟩) N cap) N (kcells .u8 l)) (hl : l.length = N) (hlo : lo + m ≤ N) (hm : m ≤ 8) (hn : 0 ≤ n ∧ n < 18446744073709551616) :
    Calls Try.prog 135 #[.slice (some ⟨g, lo, none⟩) m c, .int .u64 n] w fun e w' => e = .returned (.tuple #[]) ∧ w'.ownsRow base 5 1 (.slice (some ⟨g, 0, none⟩) N cap) N (kcells .u8 (lay l lo (putB n m))) ∧ w.grownBy w' (some g) := by
  have H := Lib.hid h
  have HL := Lib.hid hl
  have HLO := Lib.hid hlo
  obtain ⟨hn1, hn2⟩ := hn
  clear h hl hlo
  go_enter Try.func135, Try.ntmps135
  go_wp2
  go_loopw [7] (fun i wr => ∃ j : Nat, j ≤ m ∧ i = .int .i64 j ∧ wr.ownsRow base 5 1 (.slice (some ⟨g, 0, none⟩) N cap) N (kcells .u8 (lay l lo ((putB n m).take j))) ∧ w.grownBy wr (some g)) (fun i _ => m - (intOf i).toNat)
  case atStart => exact ⟨0, by omega, rfl, by rw [List.take_zero, lay_nil]; exact H.out, World.grownBy.refl _ _⟩
  case round =>
    obtain ⟨j, hj, rfl, hO, hG⟩ := hrel
    have HO := Lib.hid hO
    have HG := Lib.hid hG
    clear hO hG
    by_cases hlt : j < m
    · have hll : (lay l lo ((putB n m).take j)).length = N := by rw [lay_length _ _ _ (by rw [List.length_take, putB_length, HL.out]; have := HLO.out; omega), HL.out]
      obtain ⟨z, hz⟩ := getElem?_of_lt (l := lay l lo ((putB n m).take j)) (k := lo + j) (by rw [hll]; have := HLO.out; omega)
      have d0 := own_k hll HO.out hz
      have d1 : wr.frozen? ⟨g, lo + j, none⟩ = false := HO.out.frozenAt _
      obtain ⟨y, hy⟩ : ∃ y, n / 256 ^ (m - 1 - j) % 256 = y := ⟨_, rfl⟩
      have hst := lay_step (img := l) (b := putB n m) (a := lo) (i := j) (x := y) (by rw [putB_length, HL.out]; exact HLO.out) (by rw [putB_get n m j hlt, hy])
      have n1 := own_set_k HO.out (lo + j) y
      rw [hst] at n1
      have HN1 := Lib.hid n1
      have HN2 : Hid (w.grownBy (wr.setCell ⟨g, lo + j, none⟩ (.int .u8 y)) (some g)) := HG.out.trans (HO.out.stored (lo + j) (.int .u8 y)).2
      have HE : Hid (∀ d : Nat, d = 8 * (m - 1 - j) → n / 2 ^ d % 256 = y) := by
        intro d hd
        subst hd
        rw [pow_256]
        exact hy
      clear hz n1 hst hll hy
      go_wp2
      rw [HE.out _ (by omega)]
      go_roundw
      case rel => exact ⟨j + 1, by omega, by go_num, HN1.out, HN2.out⟩
      case measure => simp [intOf]; omega
    · have hjm : j = m := by omega
      subst hjm
      have hfin := HO.out
      rw [List.take_of_length_le (by rw [putB_length]; exact Nat.le_refl _)] at hfin
      have HFIN := Lib.hid hfin
      clear hfin
      go_wp2
      go_end0
      exact ⟨rfl, HFIN.out, HG.out⟩
end Go.Proofs.Ytjdknddnanopaaa

/-
  Params: Encode.
-/
namespace Go.Proofs.Ytjdknddnanopaaa
open Go.RowKit
set_option linter.unusedVariables false

theorem info23 : (Try.prog.info? 22).map (fun i => (i.zero, i.size, i.bytes)) = some (some (.slice none 0 0), 1, 24) := by kernel_rfl

/-- Pages in memory, in blocks that X does not hold. -/
def RdP (X : Nat → Prop) (w : World) (A : Option Addr) (ps : List (List Int)) : Prop :=
  ∃ vs : List Value, RdX X w A vs ∧ vs.length = ps.length ∧ ∀ (i : Nat) p, ps[i]? = some p → ∃ Q m c, vs[i]? = some (.slice Q m c) ∧ p.length = m ∧ m ≤ c ∧ c ≤ maxLen ∧ RdX X w Q (kcells .u8 p)

/-- The pages that have been made. -/
structure EncI (w wr : World) (v : Value) (vs : List Value) (seq : Int) (vals : List Int) (k : Nat) : Prop where
  own : wr.ownsRow w.heap.size 22 1 v k vs
  pg : ∀ i, i < k → ∃ g, vs[i]? = some (.slice (some ⟨g, 0, none⟩) 64 64) ∧ wr.ownsRow w.heap.size 5 1 (.slice (some ⟨g, 0, none⟩) 64 64) 64 (kcells .u8 (pageP seq vals i))
  below : Below w.heap.size w wr

theorem EncI.later {w wr w' : World} {v : Value} {vs : List Value} {seq : Int} {vals : List Int} {k : Nat} (h : EncI w wr v vs seq vals k) (hb : Below wr.heap.size wr w') : EncI w w' v vs seq vals k :=
  ⟨own_below h.own hb, fun i hi => by
    obtain ⟨g, h1, h2⟩ := h.pg i hi
    exact ⟨g, h1, own_below h2 hb⟩, h.below.trans (hb.mono h.below.size)⟩
theorem below_grown {B g : Nat} {w w' : World} (h : w.grownBy w' (some g)) (hg : B ≤ g) (hB : B ≤ w.heap.size) : Below B w w' :=
  ⟨h.os, h.tape, h.output, h.size, fun k hk => h.block k (Nat.lt_of_lt_of_le hk hB) (fun e => by cases e; omega)⟩
theorem EncI.push {w W W' : World} {v v' : Value} {vs : List Value} {seq : Int} {vals : List Int} {k g : Nat} {o : Obj} (h : EncI w W v vs seq vals k)
    (hp : W.ownsRow w.heap.size 5 1 (.slice (some ⟨g, 0, none⟩) 64 64) 64 (kcells .u8 (pageP seq vals k)))
    (ho : W'.ownsRow w.heap.size 22 1 v' (k + 1) (vs ++ [.slice (some ⟨g, 0, none⟩) 64 64])) (hg : (W.alloc o).grownBy W' v.ownBlock) : EncI w W' v' (vs ++ [.slice (some ⟨g, 0, none⟩) 64 64]) seq vals (k + 1) := by
  have hb : Below W.heap.size W (W.alloc o) := (Below.refl _ _).alloc (Nat.le_refl _) o
  have h1 := h.later hb
  have hp1 := own_below hp hb
  have hl : vs.length = k := by have := h.own.1; simpa using this
  refine ⟨ho, fun i hi => ?_, h1.below.grown hg h1.below.size (fun k hk => (h1.own.lt k hk).1)⟩
  by_cases e : i = k
  · subst e
    exact ⟨g, by rw [List.getElem?_append_right (by omega), hl]; simp, kept_of hp1 hg (fun g' hg' e' => own_ne_own h1.own hp1 (by decide) g' e' hg')⟩
  · obtain ⟨g', a1, a2⟩ := h1.pg i (by omega)
    exact ⟨g', by rw [List.getElem?_append_left (by omega)]; exact a1, kept_of a2 hg (fun g2 hg' e' => own_ne_own h1.own a2 (by decide) g2 e' hg')⟩
theorem encP_get (seq : Int) (vals : List Int) (i : Nat) (hi : i < pgs vals.length) : (encP seq vals)[i]? = some (pageP seq vals i) := by
  unfold encP
  rw [List.getElem?_map, List.getElem?_range hi]
  rfl
theorem encP_length (seq : Int) (vals : List Int) : (encP seq vals).length = pgs vals.length := by simp [encP]
theorem rdx_own {X : Nat → Prop} {w : World} {base e n : Nat} {A : Option Addr} {m c : Nat} {xs : List Value} (hn : xs.length = n) (h : w.ownsRow base e 1 (.slice A m c) n xs) (hX : ∀ b, X b → b < base) : RdX X w A xs := fun hx => by
  obtain ⟨A', c', hv, _, _, hg⟩ := own_form h
  obtain ⟨A2, c2, hv2, _, _, hr⟩ := own_read h
  injection hv with hv _ _
  injection hv2 with hv2 _ _
  subst hv
  subst hv2
  have hpos : 0 < n := by
    rw [← hn]
    exact List.length_pos_iff.2 hx
  obtain ⟨g, rfl, hge, hlt⟩ := hg hpos
  obtain ⟨b, off, he, hb, hc⟩ := hr hx
  have he' : b = g ∧ off = 0 := by
    injection he with he
    injection he with h1 h2
    exact ⟨h1.symm, h2.symm⟩
  obtain ⟨rfl, rfl⟩ := he'
  exact ⟨b, 0, rfl, hb, fun hx' => by have := hX _ hx'; omega, hc⟩
theorem EncI.rd {w wr : World} {A : Option Addr} {n c : Nat} {vs : List Value} {seq : Int} {vals : List Int} (h : EncI w wr (.slice A n c) vs seq vals n) (hn : n = pgs vals.length) (X : Nat → Prop) (hX : ∀ b, X b → b < w.heap.size) : RdP X wr A (encP seq vals) := by
  have hl : vs.length = n := by have := h.own.1; simpa using this
  refine ⟨vs, rdx_own hl h.own hX, by rw [encP_length, hl, hn], fun i p hp => ?_⟩
  have hi : i < pgs vals.length := by rw [← encP_length seq vals]; exact (List.getElem?_eq_some_iff.1 hp).1
  rw [encP_get seq vals i hi] at hp
  injection hp with hp
  subst hp
  obtain ⟨g, a1, a2⟩ := h.pg i (by omega)
  exact ⟨_, 64, 64, a1, pageP_length _ _ _, Nat.le_refl _, by unfold maxLen; omega, rdx_own (by rw [kcells_length, pageP_length]) a2 hX⟩
theorem own_take {w : World} {base e g n cap : Nat} {ki : IntKind} {a b : List Int} (h : w.ownsRow base e 1 (.slice (some ⟨g, 0, none⟩) n cap) n (kcells ki (a ++ b))) : Rd w w.heap.size (some ⟨g, 0, none⟩) (kcells ki a) := by
  obtain ⟨A, c, e1, _, _, hr⟩ := own_read h
  cases e1
  exact hr.initial ⟨kcells ki b, by rw [kcells_append]⟩

theorem own_low {w : World} {b b' e size n : Nat} {v : Value} {xs : List Value} (h : w.ownsRow b e size v n xs) (hb : b' ≤ b) : w.ownsRow b' e size v n xs :=
  ⟨h.1, by
    rcases h.2 with h' | ⟨g, cap, cur, h1, h2, h3⟩
    · exact .inl h'
    · exact .inr ⟨g, cap, cur, h1, Nat.le_trans hb h2, h3⟩⟩
theorem EncI.own_alloc {w wr : World} {v : Value} {vs : List Value} {seq : Int} {vals : List Int} {k : Nat} (h : EncI w wr v vs seq vals k) (o : Obj) : (wr.alloc o).ownsRow w.heap.size 22 1 v k vs :=
  own_below h.own ((Below.refl _ _).alloc (Nat.le_refl _) o)

theorem enc_no (seq : Int) (A : Option Addr) (n c : Nat) (w : World) (hn : n < 1000000000000) (h : encE seq n ≠ 0) :
    Calls Try.prog 125 #[.int .i64 seq, .slice A n c] w fun e w' => e = .returned (.tuple #[.slice none 0 0, .iface 77 (.int .i64 3)]) ∧ w = w' := by
  by_cases h1 : 1 ≤ seq ∧ seq ≤ 1099511627776
  · have h2 : ¬ (1 ≤ (n : Int) ∧ (n : Int) ≤ 48) := by
      unfold encE at h
      intro h3
      rw [if_neg (by omega)] at h
      exact h rfl
    have HA := Lib.hid (fun w => within51 seq 1 1099511627776 w)
    have HB := Lib.hid (fun w => within51 n 1 48 w)
    rw [decide_eq_true h1] at HA
    rw [decide_eq_false h2] at HB
    clear h h1 h2
    go_enter Try.func125, Try.ntmps125
    go_wp2_with (fail)
    (with_reducible refine (HA.out w).mono ?_)
    rintro e w1 ⟨rfl, rfl⟩
    go_wp2_with (fail)
    (with_reducible refine (HB.out w).mono ?_)
    rintro e w1 ⟨rfl, rfl⟩
    go_wp2
    go_ret2
    exact ⟨rfl, rfl⟩
  · have HA := Lib.hid (fun w => within51 seq 1 1099511627776 w)
    rw [decide_eq_false h1] at HA
    clear h h1
    go_enter Try.func125, Try.ntmps125
    go_wp2_with (fail)
    (with_reducible refine (HA.out w).mono ?_)
    rintro e w1 ⟨rfl, rfl⟩
    go_wp2
    go_ret2
    exact ⟨rfl, rfl⟩

set_option maxRecDepth 100000 in
set_option maxHeartbeats 4000000 in
theorem enc_yes (X : Nat → Prop) (seq : Int) (A : Option Addr) (n c : Nat) (vals : List Int) (w : World) (hX : ∀ b, X b → b < w.heap.size) (hA : Rd w w.heap.size A (icells vals)) (hn : vals.length = n) (hnc : n ≤ c) (hcm : c ≤ maxLen) (hv : ∀ x ∈ vals, -9223372036854775808 ≤ x ∧ x < 9223372036854775808) (h : encE seq n = 0) :
    Calls Try.prog 125 #[.int .i64 seq, .slice A n c] w fun e w' => ∃ A' c', e = .returned (.tuple #[.slice A' (pgs n) c', .nilIface]) ∧ pgs n ≤ c' ∧ c' ≤ maxLen ∧ RdP X w' A' (encP seq vals) ∧ Below w.heap.size w w' := by
  obtain ⟨s1, s2, n1, n2⟩ : 1 ≤ seq ∧ seq ≤ 1099511627776 ∧ 1 ≤ n ∧ n ≤ 48 := by
    unfold encE at h
    split at h
    · cases h
    · omega
  obtain ⟨ba, off, rfl⟩ : ∃ ba off, A = some ⟨ba, off, none⟩ := by
    obtain ⟨x, hx⟩ := getElem?_of_lt (l := vals) (k := 0) (by omega)
    obtain ⟨b, o, e, _⟩ := hA.int hx
    exact ⟨b, o, e⟩
  have HX := Lib.hid hX
  have HA := Lib.hid hA
  have HN := Lib.hid hn
  have HV := Lib.hid hv
  have HW1 := Lib.hid (fun w => within51 seq 1 1099511627776 w)
  have HW2 := Lib.hid (fun w => within51 n 1 48 w)
  rw [decide_eq_true (show 1 ≤ seq ∧ seq ≤ 1099511627776 by omega)] at HW1
  rw [decide_eq_true (show 1 ≤ (n : Int) ∧ (n : Int) ≤ 48 by omega)] at HW2
  have HPG := Lib.hid (fun w => pgs_any n (by omega) w)
  have HPD : Hid (6 * pgs n < n + 6 ∧ n ≤ 6 * pgs n) := by unfold pgs; exact ⟨by omega, by omega⟩
  have hpn : pgs n ≤ 8 := by have := HPD.out; omega
  obtain ⟨i23, hi, hz0, hz1, hz2⟩ := info_parts info23
  have hm8 : ∀ wx : World, (Instr.makeSlice 22 (.int .i64 64) (.int .i64 64)).run Try.prog wx = .ok (.slice (some ⟨wx.heap.size, 0, none⟩) 64 64) (wx.alloc (.cells (madeCells #[.int .u8 0] 64) 5)) := fun wx =>
    run_make_row' 22 5 (.int .u8 0) 1 Try.underlying22 info5 rfl .i64 .i64 64 (by omega) (by omega) wx
  have HC8 : Hid ((madeCells #[.int .u8 0] 64).toList = kcells .u8 (List.replicate 64 0)) := made_k .u8 64
  generalize madeCells #[.int .u8 0] 64 = C8 at *
  obtain ⟨P, hP⟩ : ∃ P, pgs n = P := ⟨_, rfl⟩
  have HPE := Lib.hid hP
  rw [hP] at HPG HPD hpn ⊢
  have hu : seq % 18446744073709551616 = seq := by omega
  have nu : (n : Int) % 256 = n := by omega
  unfold maxLen at hcm
  clear hX hA hn hv h hP
  go_enter Try.func125, Try.ntmps125
  go_wp2_with (fail)
  (with_reducible refine (HW1.out w).mono ?_)
  rintro e w1 ⟨rfl, rfl⟩
  go_wp2_with (fail)
  (with_reducible refine (HW2.out w).mono ?_)
  rintro e w1 ⟨rfl, rfl⟩
  go_wp2_with (fail)
  (with_reducible refine (HPG.out w).mono ?_)
  rintro e w1 ⟨rfl, rfl⟩
  go_wp2
  go_loopw [6, 24] (fun v i wr => ∃ k : Nat, k ≤ P ∧ i = .int .i64 k ∧ ∃ vs, EncI w wr v vs seq vals k) (fun _ i _ => P - (intOf i).toNat)
  case atStart => exact ⟨0, by omega, rfl, [], ⟨World.ownsRow_nil _ _ _ _, fun i hi => absurd hi (by omega), Below.refl _ _⟩⟩
  case round =>
    obtain ⟨k, hk, rfl, vs, hI⟩ := hrel
    have HI := Lib.hid hI
    clear hI
    obtain ⟨wa, hwa⟩ : ∃ wa, wa = wr := ⟨_, rfl⟩
    subst hwa
    by_cases hlt : k < P
    · obtain ⟨W, hW⟩ : ∃ W, wa.alloc (.cells C8 5) = W := ⟨_, rfl⟩
      have HBW : Hid (Below wa.heap.size wa W) := by rw [← hW]; exact (Below.refl _ _).alloc (Nat.le_refl _) _
      have HOW : Hid (W.ownsRow wa.heap.size 5 1 (.slice (some ⟨wa.heap.size, 0, none⟩) 64 64) 64 (kcells .u8 (List.replicate 64 0))) := by
        rw [← hW]
        exact own_alloc HC8.out (by rw [kcells_length, List.length_replicate]) (Nat.le_refl _) (by unfold maxLen; omega)
      have k8 : (k : Int) % 256 = k := by omega
      have d0 : W.cell? ⟨wa.heap.size, 0, none⟩ = some (.int .u8 0) := own_k (List.length_replicate) HOW.out (by rw [List.getElem?_replicate, if_pos (by omega)])
      have d1 : W.cell? ⟨wa.heap.size, 1, none⟩ = some (.int .u8 0) := own_k (List.length_replicate) HOW.out (by rw [List.getElem?_replicate, if_pos (by omega)])
      have f0 : W.frozen? ⟨wa.heap.size, 0, none⟩ = false := HOW.out.frozenAt _
      have f1 : W.frozen? ⟨wa.heap.size, 1, none⟩ = false := HOW.out.frozenAt _
      obtain ⟨W2, hW2⟩ : ∃ V, (W.setCell ⟨wa.heap.size, 0, none⟩ (.int .u8 k)).setCell ⟨wa.heap.size, 1, none⟩ (.int .u8 n) = V := ⟨_, rfl⟩
      have HOW2 : Hid (W2.ownsRow wa.heap.size 5 1 (.slice (some ⟨wa.heap.size, 0, none⟩) 64 64) 64 (kcells .u8 ([(k : Int), (n : Int)] ++ List.replicate 62 0))) := by
        rw [← hW2]
        have a1 := own_set_k HOW.out 0 (k : Int)
        have a2 := own_set_k a1 1 (n : Int)
        exact a2
      have HBW2 : Hid (Below wa.heap.size wa W2) := by
        rw [← hW2]
        exact (HBW.out.setCell (p := ⟨wa.heap.size, 0, none⟩) (Nat.le_refl _) _).setCell (p := ⟨wa.heap.size, 1, none⟩) (Nat.le_refl _) _
      go_wp2_with (fail)
      clear hW hW2 d0 d1 f0 f1
      (with_reducible refine (put_any wa.heap.size wa.heap.size 64 64 2 6 62 _ seq W2 HOW2.out rfl (by omega) (by omega) (by omega)).mono ?_)
      rintro e w3 ⟨rfl, ho3, hg3⟩
      have HO3 : Hid (w3.ownsRow wa.heap.size 5 1 (.slice (some ⟨wa.heap.size, 0, none⟩) 64 64) 64 (kcells .u8 (bodyI seq vals k 0 ++ [0, 0]))) := by
        rw [Hid, ← head_put, show asU seq = seq from (asU_eq seq).trans hu, HN.out]
        exact ho3
      have HB3 : Hid (Below wa.heap.size wa w3) := HBW2.out.trans (below_grown hg3 (Nat.le_refl _) HBW2.out.size)
      clear ho3 hg3 HOW2 HBW2 HOW HBW
      obtain ⟨H, hH⟩ : ∃ H, min n (6 * k + 6) = H := ⟨_, rfl⟩
      obtain ⟨lo, hlo⟩ : ∃ lo, 6 * k = lo := ⟨_, rfl⟩
      have q1 : (k : Int) * 6 = (lo : Int) := by omega
      have q2 : ((k : Int) + 1) * 6 = (lo : Int) + 6 := by omega
      have q3 : min (n : Int) ((lo : Int) + 6) = (H : Int) := by omega
      have q4 : lo ≤ H ∧ H ≤ n ∧ H ≤ lo + 6 ∧ (H < lo + 6 → H = n) := by have := HPD.out; omega
      obtain ⟨q5, q6, q7, q8⟩ := q4
      have HLO := Lib.hid hlo
      have q9 : ¬ (c = lo) := by have := HPD.out; omega
      clear hH hlo
      obtain ⟨m, hm⟩ : ∃ m, H - lo = m := ⟨_, rfl⟩
      have hm' : H = lo + m := by omega
      subst hm'
      clear hm
      rw [Int.natCast_add] at q3
      have HQ8 := Lib.hid q8
      clear q8
      go_wp2
      rw [Nat.add_sub_cancel_left]
      go_loopw [53] (fun i wr => ∃ j : Nat, j ≤ m ∧ i = .int .i64 j ∧ wr.ownsRow wa.heap.size 5 1 (.slice (some ⟨wa.heap.size, 0, none⟩) 64 64) 64 (kcells .u8 (bodyI seq vals k j ++ [0, 0])) ∧ Below wa.heap.size wa wr) (fun i _ => m - (intOf i).toNat)
      case atStart => exact ⟨0, by omega, rfl, HO3.out, HB3.out⟩
      case round =>
        obtain ⟨j, hj, rfl, hO, hB⟩ := hrel
        have HO := Lib.hid hO
        have HB := Lib.hid hB
        clear hO hB
        by_cases hltj : j < m
        · obtain ⟨x, hx⟩ := getElem?_of_lt (l := vals) (k := lo + j) (by rw [HN.out]; omega)
          obtain ⟨ba', off', eA, _, c0⟩ := (HA.out.below (HI.out.below.trans (HB.out.mono HI.out.below.size)) (Nat.le_refl _)).int hx
          injection eA with eA
          injection eA with eA1 eA2
          subst eA1
          subst eA2
          rw [← Nat.add_assoc] at c0
          obtain ⟨o, ho⟩ : ∃ o, 8 + 8 * j = o := ⟨_, rfl⟩
          have r1 : (8 : Int) + 8 * (j : Int) = (o : Int) := by omega
          have r2 : o + 8 ≤ 64 := by omega
          have HXP : Hid (lay (bodyI seq vals k j ++ [0, 0]) o (putB (asU x) 8) = bodyI seq vals k (j + 1) ++ [0, 0]) := by
            rw [← ho]
            exact body_put seq vals k j x (by omega) (by rw [HLO.out]; exact hx) [0, 0]
          have HLL : Hid ((bodyI seq vals k j ++ [0, 0]).length = 64) := by rw [Hid, List.length_append, bodyI_length _ _ _ _ (by omega)]; rfl
          have HU := Lib.hid (asU_range x)
          have HPT := Lib.hid (put_any wa.heap.size wa.heap.size 64 64 o 8 (64 - o) _ (IntKind.u64.wrap x) wr HO.out HLL.out (by omega) (by omega) HU.out)
          clear hx ho
          go_wp2_with (fail)
          (with_reducible refine HPT.out.mono ?_)
          rintro e w4 ⟨rfl, ho4, hg4⟩
          have HO4 : Hid (w4.ownsRow wa.heap.size 5 1 (.slice (some ⟨wa.heap.size, 0, none⟩) 64 64) 64 (kcells .u8 (bodyI seq vals k (j + 1) ++ [0, 0]))) := by
            rw [Hid, ← HXP.out]
            exact ho4
          have HB4 : Hid (Below wa.heap.size wa w4) := HB.out.trans (below_grown hg4 (Nat.le_refl _) HB.out.size)
          clear ho4 hg4 c0
          go_wp2
          go_roundw
          case rel => exact ⟨j + 1, by omega, by go_num, HO4.out, HB4.out⟩
          case measure => simp [intOf]; omega
        · have hjm : j = m := by omega
          subst hjm
          have HBP : Hid (bodyI seq vals k j = bodyP seq vals k) := by
            by_cases e6 : j = 6
            · subst e6; rfl
            · exact body_rest seq vals k j (by omega) (by rw [HN.out, HLO.out]; have := HQ8.out (by omega); omega)
          have HO5 : Hid (wr.ownsRow wa.heap.size 5 1 (.slice (some ⟨wa.heap.size, 0, none⟩) 64 64) 64 (kcells .u8 (bodyP seq vals k ++ [0, 0]))) := by
            rw [Hid, ← HBP.out]
            exact HO.out
          have HZ := Lib.hid (zeros_any (some ⟨wa.heap.size, 0, none⟩) 62 64 (bodyP seq vals k) wr.drew (((own_take HO5.out)).below (Below.drew (Below.refl _ _)) (Nat.le_refl _)) (bodyP_length _ _ _) (bodyI_bytes seq vals k 6 (by omega) (by rw [HN.out]; omega)) (by omega))
          obtain ⟨z, hz⟩ : ∃ z, zerosB (bodyP seq vals k) = z := ⟨_, rfl⟩
          have hzr := zeros_range (bodyP seq vals k)
          rw [bodyP_length, hz] at hzr
          have zw : IntKind.u64.wrap z = z := by rw [IntKind.wrap_u64]; omega
          have HPZ : Hid (lay (bodyP seq vals k ++ [0, 0]) 62 (putB (IntKind.u64.wrap z) 2) = pageP seq vals k) := by rw [Hid, zw, ← hz]; exact foot_put seq vals k
          rw [hz] at HZ
          have HPT := Lib.hid (put_any wa.heap.size wa.heap.size 64 64 62 2 2 _ (IntKind.u64.wrap z) wr.drew (own_below HO5.out (Below.drew (Below.refl _ _))) (by rw [List.length_append, bodyP_length]; rfl) (by omega) (by omega) (by rw [zw]; omega))
          clear hz HBP zw
          go_upto_region 15 with (fail)
          go_region_with (first
            | (go_at_call 134; with_reducible refine HZ.out.mono ?_; rintro e wz ⟨rfl, rfl⟩)
            | (go_at_call 135; with_reducible refine HPT.out.mono ?_; rintro e w6 ⟨rfl, ho6, hg6⟩))
          have HO6 : Hid (w6.ownsRow wa.heap.size 5 1 (.slice (some ⟨wa.heap.size, 0, none⟩) 64 64) 64 (kcells .u8 (pageP seq vals k))) := by
            rw [Hid, ← HPZ.out]
            exact ho6
          have HB6 : Hid (Below wa.heap.size wa w6) := (HB.out.trans (Below.drew (Below.refl _ _) |>.mono HB.out.size)).trans (below_grown hg6 (Nat.le_refl _) HB.out.size)
          have HI6 := Lib.hid (HI.out.later HB6.out)
          have HOB := Lib.hid (own_low HO6.out HI.out.below.size)
          clear ho6 hg6
          go_wp2_with (at_builtin; refine wpList_append_own _ rfl _ _ 44 rfl w.heap.size 22 i23 (.slice none 0 0) 1 24 Try.underlying44 hi hz0 hz1 hz2 rfl (by omega) _ _ _ rfl (HI6.out.own_alloc _) ⟨w6.heap.size, 0, none⟩ 1 1 [.slice (some ⟨wa.heap.size, 0, none⟩) 64 64] rfl rfl (cell_one_new _ _ _) (by simp [Value.oneCell']) (by unfold maxLen; omega) (by omega) (by have := HI6.out.below.size; simp; omega) ?_)
          intro v' w8 hown8 hgrow8 _
          have HI8 := Lib.hid (HI6.out.push HOB.out hown8 hgrow8)
          clear hown8 hgrow8
          go_wp2
          go_roundw
          case rel => exact ⟨k + 1, by omega, by go_num, _, HI8.out⟩
          case measure => simp [intOf]; omega
    · have hkn : k = P := by omega
      subst hkn
      obtain ⟨A', c', rfl, h1, h2, _⟩ := own_read HI.out.own
      have HR := Lib.hid (HI.out.rd (by rw [HN.out, HPE.out]) X HX.out)
      have HH := Lib.hid (And.intro h1 h2)
      clear h1 h2
      go_wp2
      go_ret2
      exact ⟨A', c', rfl, HH.out.1, HH.out.2, HR.out, HI.out.below⟩
end Go.Proofs.Ytjdknddnanopaaa

/-
  A store of parameters in memory.
-/
namespace Go.Proofs.Ytjdknddnanopaaa
open Go.RowKit
set_option linter.unusedVariables false

/-- Nothing has turned but the blocks X. -/
structure OnlyX (X : Nat → Prop) (w w' : World) : Prop where
  size : w.heap.size ≤ w'.heap.size
  block : ∀ k, k < w.heap.size → ¬ X k → w'.heap[k]? = w.heap[k]?
theorem OnlyX.refl (X : Nat → Prop) (w : World) : OnlyX X w w := ⟨Nat.le_refl _, fun _ _ _ => rfl⟩
theorem OnlyX.trans {X : Nat → Prop} {a b c : World} (h : OnlyX X a b) (k : OnlyX X b c) : OnlyX X a c :=
  ⟨Nat.le_trans h.size k.size, fun i hi hx => (k.block i (Nat.lt_of_lt_of_le hi h.size) hx).trans (h.block i hi hx)⟩
theorem OnlyX.of_below {X : Nat → Prop} {w w' : World} (h : Below w.heap.size w w') : OnlyX X w w' := ⟨h.size, fun k hk _ => h.block k hk⟩
theorem OnlyX.set {X : Nat → Prop} (w : World) (p : Addr) (u : Value) (h : X p.block) : OnlyX X w (w.setCell p u) :=
  ⟨by simp [World.setCell], fun k _ hx => Below.heap_setCell _ _ _ _ (fun e => hx (e ▸ h))⟩
theorem OnlyX.of_only {L : Lc} {X : Nat → Prop} {w w' : World} (h : Only L w w') (hX : X L.d ∧ X L.gi ∧ X L.gw) : OnlyX X w w' :=
  ⟨h.size, fun k hk hx => h.block k hk (fun e => hx (e ▸ hX.1)) (fun e => hx (e ▸ hX.2.1)) (fun e => hx (e ▸ hX.2.2))⟩
theorem RdX.onlyX {X Y : Nat → Prop} {w w' : World} {A : Option Addr} {xs : List Value} (h : RdX X w A xs) (k : OnlyX Y w w') (hs : ∀ b, Y b → X b := by first | exact fun _ h => h | exact fun _ h => .inl h) : RdX X w' A xs := fun hx => by
  obtain ⟨b, off, e, hlt, hn, hc⟩ := h hx
  exact ⟨b, off, e, Nat.lt_of_lt_of_le hlt k.size, hn, fun j u hu => (cell_of_block (k.block b hlt (fun hy => hn (hs b hy)))).trans (hc j u hu)⟩
theorem RdX.newX {X Y : Nat → Prop} {w : World} {A : Option Addr} {xs : List Value} (h : RdX X w A xs) (hY : ∀ b, b < w.heap.size → Y b → X b) : RdX Y w A xs := fun hx => by
  obtain ⟨b, off, e, hlt, hn, hc⟩ := h hx
  exact ⟨b, off, e, hlt, fun hb => hn (hY b hlt hb), hc⟩
theorem RdX.part {X : Nat → Prop} {w : World} {A : Option Addr} {xs ys : List Value} (h : RdX X w A xs) (hp : ys <+: xs) : RdX X w A ys := by
  intro hy
  obtain ⟨z, rfl⟩ := hp
  obtain ⟨b, off, e, hlt, hn, hc⟩ := h (by simp [hy])
  refine ⟨b, off, e, hlt, hn, fun j u hu => hc j u ?_⟩
  rw [List.getElem?_append_left (List.getElem?_eq_some_iff.1 hu).1]
  exact hu
theorem RdP.onlyX {X Y : Nat → Prop} {w w' : World} {A : Option Addr} {ps : List (List Int)} (h : RdP X w A ps) (k : OnlyX Y w w') (hs : ∀ b, Y b → X b := by first | exact fun _ h => h | exact fun _ h => .inl h) : RdP X w' A ps := by
  obtain ⟨vs, a, b, c⟩ := h
  refine ⟨vs, a.onlyX k hs, b, fun i p hp => ?_⟩
  obtain ⟨Q, m, cc, d1, d2, d3, d4, d5⟩ := c i p hp
  exact ⟨Q, m, cc, d1, d2, d3, d4, d5.onlyX k hs⟩
theorem RdP.newX {X Y : Nat → Prop} {w : World} {A : Option Addr} {ps : List (List Int)} (h : RdP X w A ps) (hY : ∀ b, b < w.heap.size → Y b → X b) : RdP Y w A ps := by
  obtain ⟨vs, a, b, c⟩ := h
  refine ⟨vs, a.newX hY, b, fun i p hp => ?_⟩
  obtain ⟨Q, m, cc, d1, d2, d3, d4, d5⟩ := c i p hp
  exact ⟨Q, m, cc, d1, d2, d3, d4, d5.newX hY⟩
theorem RdP.nil {X : Nat → Prop} {w : World} {A : Option Addr} : RdP X w A [] := ⟨[], fun h => absurd rfl h, rfl, fun i p h => by simp at h⟩

/-- Where a store lies. -/
structure Sc where
  D : Nat
  G : Nat
  cg : Nat
  As : Option Addr
  cs : Nat
  Av : Option Addr
  cv : Nat
  Ap : Option Addr
  cp : Nat
  Au : Option Addr
  cu : Nat
def Sc.cells (S : Sc) (d : Nat) (s : St) : List Value :=
  [.pointer (some ⟨d, 0, none⟩), .int .i64 s.first, .int .i64 s.blocks, .slice S.As s.spec.length S.cs, .slice S.Av s.saved.length S.cv, .slice (some ⟨S.G, 0, none⟩) s.staged.length S.cg,
   .int .i64 s.seq, .int .i64 s.block, .int .i64 s.slot, .bool s.broken, .slice S.Ap s.pages.length S.cp, .slice S.Au s.values.length S.cu, .int .i64 s.dest, .int .i64 s.toSlot, .int .i64 s.done, .bool s.erase, .bool s.busy]
def Own5 (L : Lc) (S : Sc) (b : Nat) : Prop := b = L.d ∨ b = L.gi ∨ b = L.gw ∨ b = S.D ∨ b = S.G
/-- The blocks of a store, and those that are set apart. -/
def Own (L : Lc) (S : Sc) (b : Nat) : Prop := Own5 L S b ∨ L.E b
def pcells (l : List Par) : List Value := l.flatMap Par.cells
theorem Own5.fl (L : Lc) (S : Sc) : Own5 L S L.d ∧ Own5 L S L.gi ∧ Own5 L S L.gw := ⟨.inl rfl, .inr (.inl rfl), .inr (.inr (.inl rfl))⟩
theorem Own5.d (L : Lc) (S : Sc) : Own5 L S S.D := .inr (.inr (.inr (.inl rfl)))
theorem Own5.g (L : Lc) (S : Sc) : Own5 L S S.G := .inr (.inr (.inr (.inr rfl)))
theorem Own.fl (L : Lc) (S : Sc) : Own L S L.d ∧ Own L S L.gi ∧ Own L S L.gw := ⟨.inl (Own5.fl L S).1, .inl (Own5.fl L S).2.1, .inl (Own5.fl L S).2.2⟩

/-- The lists of a store. -/
structure SlR (X : Nat → Prop) (w : World) (S : Sc) (s : St) : Prop where
  sp : RdX X w S.As (pcells s.spec)
  sp1 : s.spec.length ≤ S.cs
  sp2 : S.cs ≤ maxLen
  sv : RdX X w S.Av (icells s.saved)
  sv1 : s.saved.length ≤ S.cv
  sv2 : S.cv ≤ maxLen
  pp : RdP X w S.Ap s.pages
  pp1 : s.pages.length ≤ S.cp
  pp2 : S.cp ≤ maxLen
  vv : RdX X w S.Au (icells s.values)
  vv1 : s.values.length ≤ S.cu
  vv2 : S.cu ≤ maxLen
theorem SlR.onlyX {X Y : Nat → Prop} {w w' : World} {S : Sc} {s : St} (h : SlR X w S s) (k : OnlyX Y w w') (hs : ∀ b, Y b → X b := by first | exact fun _ h => h | exact fun _ h => .inl h) : SlR X w' S s :=
  ⟨h.sp.onlyX k hs, h.sp1, h.sp2, h.sv.onlyX k hs, h.sv1, h.sv2, h.pp.onlyX k hs, h.pp1, h.pp2, h.vv.onlyX k hs, h.vv1, h.vv2⟩
theorem SlR.newX {X Y : Nat → Prop} {w : World} {S : Sc} {s : St} (h : SlR X w S s) (hY : ∀ b, b < w.heap.size → Y b → X b) : SlR Y w S s :=
  ⟨h.sp.newX hY, h.sp1, h.sp2, h.sv.newX hY, h.sv1, h.sv2, h.pp.newX hY, h.pp1, h.pp2, h.vv.newX hY, h.vv1, h.vv2⟩

theorem SlR.like {X : Nat → Prop} {w : World} {S : Sc} {s : St} (h : SlR X w S s) (s' : St) (e1 : s'.spec = s.spec) (e2 : s'.saved = s.saved) (e3 : s'.pages = s.pages) (e4 : s'.values = s.values) : SlR X w S s' :=
  ⟨by rw [e1]; exact h.sp, by rw [e1]; exact h.sp1, h.sp2, by rw [e2]; exact h.sv, by rw [e2]; exact h.sv1, h.sv2, by rw [e3]; exact h.pp, by rw [e3]; exact h.pp1, h.pp2, by rw [e4]; exact h.vv, by rw [e4]; exact h.vv1, h.vv2⟩

structure StAt (w0 w : World) (L : Lc) (S : Sc) (f : Fl) (s : St) : Prop where
  fl : FlAt w0 w L f
  dd : w0.heap.size ≤ S.D
  dl : S.D < w.heap.size
  d1 : S.D ≠ L.d
  d2 : S.D ≠ L.gi
  d3 : S.D ≠ L.gw
  dg : S.D ≠ S.G
  g1 : S.G ≠ L.d
  g2 : S.G ≠ L.gi
  g3 : S.G ≠ L.gw
  row : ∀ j u, (S.cells L.d s)[j]? = some u → w.cell? ⟨S.D, j, none⟩ = some u
  fz : ∀ j, w.frozen? ⟨S.D, j, none⟩ = false
  sg : w.ownsRow w0.heap.size 3 1 (.slice (some ⟨S.G, 0, none⟩) s.staged.length S.cg) s.staged.length (icells s.staged)
  sl : SlR (Own L S) w S s
  pk : RdX (Own L S) w L.Ap (kcells .u8 f.picks)

theorem StAt.gl {w0 w : World} {L : Lc} {S : Sc} {f : Fl} {s : St} (h : StAt w0 w L S f s) : w0.heap.size ≤ S.G ∧ S.G < w.heap.size := h.sg.lt _ rfl
theorem StAt.cg {w0 w : World} {L : Lc} {S : Sc} {f : Fl} {s : St} (h : StAt w0 w L S f s) : s.staged.length ≤ S.cg ∧ S.cg ≤ maxLen := by
  obtain ⟨A, c, hv, h1, h2, hr⟩ := own_read h.sg
  injection hv with e1 e2 e3
  subst e3
  exact ⟨h1, h2⟩

theorem FlAt.aside {w0 w w' : World} {L : Lc} {f : Fl} {X : Nat → Prop} (h : FlAt w0 w L f) (hb : Below w0.heap.size w0 w') (ho : OnlyX X w w') (h1 : ¬ X L.d) (h2 : ¬ X L.gi) (h3 : ¬ X L.gw)
    (hf : ∀ j, w'.frozen? ⟨L.d, j, none⟩ = w.frozen? ⟨L.d, j, none⟩) (hoi : w'.ownsRow w0.heap.size 5 1 (.slice (some ⟨L.gi, 0, none⟩) f.img.length L.ci) f.img.length (kcells .u8 f.img))
    (how : w'.ownsRow w0.heap.size 3 1 (.slice (some ⟨L.gw, 0, none⟩) f.wear.length L.cw) f.wear.length (icells f.wear)) (hp : Apart L w' L.Ap (kcells .u8 f.picks)) : FlAt w0 w' L f := by
  have hc : ∀ j, w'.cell? ⟨L.d, j, none⟩ = w.cell? ⟨L.d, j, none⟩ := fun j => cell_of_block (ho.block L.d h.ld h1)
  exact ⟨h.ok, hb, h.bd, Nat.lt_of_lt_of_le h.ld ho.size, h.ni, h.nw, h.iw, (hc 0).trans h.c0, (hc 1).trans h.c1, (hc 2).trans h.c2, (hc 3).trans h.c3, (hc 4).trans h.c4, (hc 5).trans h.c5, fun j => (hf j).trans (h.fz j), hoi, how, h.pc, h.pm, hp, fun b hE => Nat.lt_of_lt_of_le (h.eb b hE) ho.size⟩

section
variable {w0 w : World} {L : Lc} {S : Sc} {f : Fl} {s : St}

theorem StAt.later (h : StAt w0 w L S f s) {w' : World} (hb : Below w.heap.size w w') : StAt w0 w' L S f s := by
  have hc : ∀ j, w'.cell? ⟨S.D, j, none⟩ = w.cell? ⟨S.D, j, none⟩ := fun j => hb.cell (p := ⟨S.D, j, none⟩) h.dl
  exact ⟨h.fl.later hb, h.dd, Nat.lt_of_lt_of_le h.dl hb.size, h.d1, h.d2, h.d3, h.dg, h.g1, h.g2, h.g3, fun j u hu => (hc j).trans (h.row j u hu), fun j => (hb.frozen (p := ⟨S.D, j, none⟩) h.dl).trans (h.fz j),
    own_below h.sg hb, h.sl.onlyX (.of_below hb), h.pk.onlyX (.of_below hb)⟩

/-- The flash has turned. -/
theorem StAt.flash (h : StAt w0 w L S f s) {w' : World} {f' : Fl} (hf : FlAt w0 w' L f') (ho : Only L w w') (hp : f'.picks = f.picks) (hfz : ∀ j, w'.frozen? ⟨S.D, j, none⟩ = false)
    (hs : w'.ownsRow w0.heap.size 3 1 (.slice (some ⟨S.G, 0, none⟩) s.staged.length S.cg) s.staged.length (icells s.staged)) : StAt w0 w' L S f' s := by
  have hX : OnlyX (Own5 L S) w w' := .of_only ho (Own5.fl L S)
  exact ⟨hf, h.dd, Nat.lt_of_lt_of_le h.dl ho.size, h.d1, h.d2, h.d3, h.dg, h.g1, h.g2, h.g3, fun j u hu => (cell_of_block (ho.block S.D h.dl h.d1 h.d2 h.d3)).trans (h.row j u hu), hfz, hs, h.sl.onlyX hX, by rw [hp]; exact h.pk.onlyX hX⟩

theorem frozen_of_block {w w' : World} {b j : Nat} (h : w'.heap[b]? = w.heap[b]?) : w'.frozen? ⟨b, j, none⟩ = w.frozen? ⟨b, j, none⟩ := by
  simp only [World.frozen?, h]
theorem own_of_block {w w' : World} {base e size n g c : Nat} {xs : List Value} (h : w.ownsRow base e size (.slice (some ⟨g, 0, none⟩) n c) n xs) (hb : w'.heap[g]? = w.heap[g]?) : w'.ownsRow base e size (.slice (some ⟨g, 0, none⟩) n c) n xs := by
  refine ⟨h.1, ?_⟩
  rcases h.2 with ⟨hv, _⟩ | ⟨g', cap, cur, hv, h1, h2, h3⟩
  · cases hv
  · injection hv with hv e2 e3
    injection hv with hv
    injection hv with hv
    subst hv
    exact .inr ⟨_, cap, cur, by rw [e3], h1, by rw [hb]; exact h2, h3⟩
/-- The flash has turned (for its own calls). -/
theorem StAt.flash' (h : StAt w0 w L S f s) {w' : World} {f' : Fl} (hf : FlAt w0 w' L f') (ho : Only L w w') (hp : f'.picks = f.picks) : StAt w0 w' L S f' s := by
  refine h.flash hf ho hp (fun j => ?_) ?_
  · rw [frozen_of_block (ho.block S.D h.dl h.d1 h.d2 h.d3)]
    exact h.fz j
  · exact own_of_block h.sg (ho.block S.G h.gl.2 h.g1 h.g2 h.g3)
/-- The flash has turned, and its picks lie elsewhere. -/
theorem StAt.flash2 (h : StAt w0 w L S f s) {w' : World} {f' : Fl} {Ap : Option Addr} {cp : Nat} (hf : FlAt w0 w' { L with Ap := Ap, cp := cp } f') (ho : Only L w w') (hp : RdX (Own L S) w' Ap (kcells .u8 f'.picks)) : StAt w0 w' { L with Ap := Ap, cp := cp } S f' s := by
  have hX : OnlyX (Own5 L S) w w' := .of_only ho (Own5.fl L S)
  refine ⟨hf, h.dd, Nat.lt_of_lt_of_le h.dl ho.size, h.d1, h.d2, h.d3, h.dg, h.g1, h.g2, h.g3, fun j u hu => (cell_of_block (ho.block S.D h.dl h.d1 h.d2 h.d3)).trans (h.row j u hu), fun j => ?_, ?_, h.sl.onlyX hX, hp⟩
  · rw [frozen_of_block (ho.block S.D h.dl h.d1 h.d2 h.d3)]
    exact h.fz j
  · exact own_of_block h.sg (ho.block S.G h.gl.2 h.g1 h.g2 h.g3)

/-- A cell of the store is stored. -/
theorem StAt.cell (h : StAt w0 w L S f s) (j : Nat) (u : Value) (S' : Sc) (s' : St) (e1 : S'.D = S.D) (e2 : S'.G = S.G) (e3 : S'.cg = S.cg) (e4 : s'.staged = s.staged)
    (hc : S'.cells L.d s' = (S.cells L.d s).set j u) (hl : SlR (Own L S) w S' s') :
    StAt w0 (w.setCell ⟨S.D, j, none⟩ u) L S' f s' ∧ OnlyX (Own5 L S) w (w.setCell ⟨S.D, j, none⟩ u) := by
  have ho : OnlyX (Own5 L S) w (w.setCell ⟨S.D, j, none⟩ u) := .set w ⟨S.D, j, none⟩ u (Own5.d L S)
  have ho1 : OnlyX (fun b => b = S.D) w (w.setCell ⟨S.D, j, none⟩ u) := .set w ⟨S.D, j, none⟩ u rfl
  have hb : Below w0.heap.size w0 (w.setCell ⟨S.D, j, none⟩ u) := h.fl.below.setCell (p := ⟨S.D, j, none⟩) h.dd _
  have hX : ∀ b, Own L S' b ↔ Own L S b := fun b => by unfold Own Own5; rw [e1, e2]
  have hX' : Own L S' = Own L S := funext fun b => propext (hX b)
  have hfl : FlAt w0 (w.setCell ⟨S.D, j, none⟩ u) L f := by
    refine h.fl.aside hb ho1 (fun e => h.d1 e.symm) (fun e => h.d2 e.symm) (fun e => h.d3 e.symm) (fun i => by rw [World.frozen?_setCell]) ?_ ?_ ((h.pk.onlyX ho).apart (Own.fl L S))
    · exact own_of_block h.fl.oi (ho1.block L.gi h.fl.bi.2 (fun e => h.d2 e.symm))
    · exact own_of_block h.fl.ow (ho1.block L.gw h.fl.bw.2 (fun e => h.d3 e.symm))
  refine ⟨⟨hfl, by rw [e1]; exact h.dd, by rw [e1]; simpa [World.setCell] using h.dl, by rw [e1]; exact h.d1, by rw [e1]; exact h.d2, by rw [e1]; exact h.d3, by rw [e1, e2]; exact h.dg, by rw [e2]; exact h.g1, by rw [e2]; exact h.g2, by rw [e2]; exact h.g3, ?_, ?_, ?_, by rw [hX']; exact hl.onlyX ho, by rw [hX']; exact h.pk.onlyX ho⟩, ho⟩
  · intro i v hv
    rw [e1]
    rw [hc, List.getElem?_set] at hv
    by_cases hij : j = i
    · subst hij
      rw [if_pos rfl] at hv
      split at hv
      · rename_i hlt
        injection hv with hv
        subst hv
        exact World.cell?_setCell_same _ _ _ (h.row j _ (List.getElem?_eq_getElem hlt))
      · cases hv
    · rw [if_neg hij] at hv
      rw [World.cell?_setCell_other _ _ _ _ (by
        intro e
        injection e with _ e
        exact hij e)]
      exact h.row i v hv
  · intro i
    rw [e1, World.frozen?_setCell]
    exact h.fz i
  · rw [e2, e3, e4]
    exact own_of_block h.sg (ho1.block S.G h.gl.2 (fun e => h.dg e.symm))

/-- A value is staged. -/
theorem StAt.stage (h : StAt w0 w L S f s) (k : Nat) (x : Int) :
    StAt w0 (w.setCell ⟨S.G, k, none⟩ (.int .i64 x)) L S f { s with staged := s.staged.set k x } ∧ OnlyX (Own5 L S) w (w.setCell ⟨S.G, k, none⟩ (.int .i64 x)) := by
  have ho : OnlyX (Own5 L S) w (w.setCell ⟨S.G, k, none⟩ (.int .i64 x)) := .set w ⟨S.G, k, none⟩ _ (Own5.g L S)
  have ho1 : OnlyX (fun b => b = S.G) w (w.setCell ⟨S.G, k, none⟩ (.int .i64 x)) := .set w ⟨S.G, k, none⟩ _ rfl
  have hb : Below w0.heap.size w0 (w.setCell ⟨S.G, k, none⟩ (.int .i64 x)) := h.fl.below.setCell (p := ⟨S.G, k, none⟩) h.gl.1 _
  have hfl : FlAt w0 (w.setCell ⟨S.G, k, none⟩ (.int .i64 x)) L f := by
    refine h.fl.aside hb ho1 (fun e => h.g1 e.symm) (fun e => h.g2 e.symm) (fun e => h.g3 e.symm) (fun i => by rw [World.frozen?_setCell]) ?_ ?_ ((h.pk.onlyX ho).apart (Own.fl L S))
    · exact own_of_block h.fl.oi (ho1.block L.gi h.fl.bi.2 (fun e => h.g2 e.symm))
    · exact own_of_block h.fl.ow (ho1.block L.gw h.fl.bw.2 (fun e => h.g3 e.symm))
  refine ⟨⟨hfl, h.dd, by simpa [World.setCell] using h.dl, h.d1, h.d2, h.d3, h.dg, h.g1, h.g2, h.g3, ?_, ?_, ?_, ⟨h.sl.sp.onlyX ho, h.sl.sp1, h.sl.sp2, h.sl.sv.onlyX ho, h.sl.sv1, h.sl.sv2, h.sl.pp.onlyX ho, h.sl.pp1, h.sl.pp2, h.sl.vv.onlyX ho, h.sl.vv1, h.sl.vv2⟩, h.pk.onlyX ho⟩, ho⟩
  · intro i v hv
    rw [cell_of_block (ho1.block S.D h.dl h.dg)]
    refine h.row i v ?_
    rw [← hv]
    unfold Sc.cells
    simp only [List.length_set]
  · intro i
    rw [World.frozen?_setCell]
    exact h.fz i
  · have e : icells (s.staged.set k x) = (icells s.staged).set k (.int .i64 x) := by simp [icells]
    simp only [List.length_set, e]
    exact (h.sg.stored k (.int .i64 x)).1
end
end Go.Proofs.Ytjdknddnanopaaa

/-
  Params: Good, Equal.
-/
namespace Go.Proofs.Ytjdknddnanopaaa
open Go.RowKit
set_option linter.unusedVariables false

theorem Rd.drew {w : World} {B : Nat} {A : Option Addr} {xs : List Value} (h : Rd w B A xs) (hB : B ≤ w.heap.size) (q : Nat) : Rd (w.drewN q) B A xs := h.below (Below.drewN (Below.refl _ _) q) hB
theorem drewN_size (w : World) (q : Nat) : (w.drewN q).heap.size = w.heap.size := rfl
theorem number_q {w : World} {q : Nat} {A : Option Addr} {n c : Nat} {b : List Int} (hA : Rd w w.heap.size A (kcells .u8 b)) (hn : b.length = n) (hb : Bytes b) (hn2 : n ≤ 1000000) :
    Calls Try.prog 124 #[.slice A n c] (w.drewN q) fun e w' => e = .returned (.int .u64 (numB b)) ∧ w' = w.drewN q :=
  (number_any A n c b (w.drewN q) (hA.drew (Nat.le_refl _) q) hn hb hn2).mono fun _ _ ⟨a, b⟩ => ⟨a, b.symm⟩
theorem zeros_q {w : World} {q : Nat} {A : Option Addr} {n c : Nat} {b : List Int} (hA : Rd w w.heap.size A (kcells .u8 b)) (hn : b.length = n) (hb : Bytes b) (hn2 : n ≤ 1000000) :
    Calls Try.prog 134 #[.slice A n c] (w.drewN q) fun e w' => e = .returned (.int .i64 (zerosB b)) ∧ w' = w.drewN q :=
  (zeros_any A n c b (w.drewN q) (hA.drew (Nat.le_refl _) q) hn hb hn2).mono fun _ _ ⟨a, b⟩ => ⟨a, b.symm⟩

theorem goodP_64 {b : List Int} (h : b.length = 64) : goodP b = (numB (b.drop 62) == zerosB (b.take 62)) := by
  unfold goodP
  rw [h]
  by_cases e : numB (b.drop 62) = zerosB (b.take 62)
  · rw [decide_eq_true ⟨rfl, e⟩, e]; simp
  · rw [decide_eq_false (fun k => e k.2)]
    symm
    rw [beq_eq_false_iff_ne]
    exact e
theorem goodP_no {b : List Int} (h : b.length ≠ 64) : goodP b = false := by
  unfold goodP
  rw [decide_eq_false (fun k => h k.1)]

set_option maxHeartbeats 2000000 in
theorem good_any (A : Option Addr) (n c : Nat) (b : List Int) (w : World) (hA : Rd w w.heap.size A (kcells .u8 b)) (hn : b.length = n) (hnc : n ≤ c) (hcm : c ≤ maxLen) (hb : Bytes b) :
    Calls Try.prog 123 #[.slice A n c] w fun e w' => e = .returned (.bool (goodP b)) ∧ ∃ q, w' = w.drewN q := by
  unfold maxLen at hcm
  by_cases h64 : n = 64
  · subst h64
    have HG := Lib.hid (goodP_64 hn)
    obtain ⟨ba, off, rfl⟩ : ∃ ba off, A = some ⟨ba, off, none⟩ := by
      obtain ⟨x, hx⟩ := getElem?_of_lt (l := b) (k := 0) (by omega)
      obtain ⟨b', o, e, _⟩ := hA.kint hx
      exact ⟨b', o, e⟩
    have r1 : Rd w w.heap.size (some ⟨ba, off + 62, none⟩) (kcells .u8 (b.drop 62)) := by
      have := hA.part 62 2
      rw [List.take_of_length_le (by rw [List.length_drop, hn]; exact Nat.le_refl 2)] at this
      exact this
    have r2 : Rd w w.heap.size (some ⟨ba, off, none⟩) (kcells .u8 (b.take 62)) := by
      have := hA.part 0 62
      rw [List.drop_zero] at this
      exact this
    have H84 : Hid (∀ q, Calls Try.prog 124 #[.slice (some ⟨ba, off + 62, none⟩) 2 (c - 62)] (w.drewN q) fun e w' => e = .returned (.int .u64 (numB (b.drop 62))) ∧ w' = w.drewN q) :=
      fun q => number_q r1 (by rw [List.length_drop, hn]) (fun x hx => hb x (List.mem_of_mem_drop hx)) (by omega)
    have H85 : Hid (∀ q, Calls Try.prog 134 #[.slice (some ⟨ba, off, none⟩) 62 c] (w.drewN q) fun e w' => e = .returned (.int .i64 (zerosB (b.take 62))) ∧ w' = w.drewN q) :=
      fun q => zeros_q r2 (by rw [List.length_take, hn]; rfl) (fun x hx => hb x (List.mem_of_mem_take hx)) (by omega)
    have hz := zeros_range (b.take 62)
    rw [List.length_take, hn] at hz
    obtain ⟨z1, z2⟩ := hz
    generalize numB (b.drop 62) = N at *
    generalize zerosB (b.take 62) = Z at *
    have z3 : Z < 1000 := by omega
    have z4 : IntKind.u64.wrap Z = Z := by rw [IntKind.wrap_u64]; omega
    clear hA hn hb r1 r2 z2
    go_enter Try.func123, Try.ntmps123
    go_wp2
    go_quiet ((first | (go_at_call 124; with_reducible exact Calls.quiet_of_same (H84.out _)) | (go_at_call 134; with_reducible exact Calls.quiet_of_same (H85.out _))))
    go_wp2
    go_ret
    exact ⟨by rw [HG.out]; rfl, _, rfl⟩
  · have HG := Lib.hid (goodP_no (b := b) (by omega))
    have d : ((n : Int) == 64) = false := by simp; omega
    clear hA hn hb h64
    go_enter Try.func123, Try.ntmps123
    go_wp2
    go_quiet (fail)
    go_wp2
    go_ret
    exact ⟨by rw [HG.out]; rfl, _, rfl⟩

/-- Equal of two slices of bytes. -/
theorem equal_any (A B : Option Addr) (n m c d : Nat) (a b : List Int) (w : World) (hA : Rd w w.heap.size A (kcells .u8 a)) (hB : Rd w w.heap.size B (kcells .u8 b)) (hn : a.length = n) (hm : b.length = m) (ha : Bytes a) (hb : Bytes b) :
    Calls Try.prog 127 #[.slice A n c, .slice B m d] w fun e w' => e = .returned (.bool (decide (a = b))) ∧ w = w' := by
  have h1 := str_of (c := c) hA hn
  have h2 := str_of (c := d) hB hm
  have HE := Lib.hid (str_beq ha hb)
  clear hA hB hn hm ha hb
  go_enter Try.func127, Try.ntmps127
  go_wp2
  go_ret
  refine ⟨?_, rfl⟩
  rw [← HE.out]
  first | rfl | simp
end Go.Proofs.Ytjdknddnanopaaa

/-
  Params: EqualFunc, Equal of ints, Decode.
-/
namespace Go.Proofs.Ytjdknddnanopaaa
open Go.RowKit
set_option linter.unusedVariables false

theorem takeP_step {l m : List (List Int)} {k : Nat} {x y : List Int} (hx : l[k]? = some x) (hy : m[k]? = some y) (h : l.take k = m.take k) (e : x = y) : l.take (k + 1) = m.take (k + 1) := by
  rw [take_snoc_get l k x hx, take_snoc_get m k y hy, h, e]
theorem RdP.get {X : Nat → Prop} {w : World} {A : Option Addr} {ps : List (List Int)} (h : RdP X w A ps) {i : Nat} {p : List Int} (hp : ps[i]? = some p) :
    ∃ b off Q c, A = some ⟨b, off, none⟩ ∧ b < w.heap.size ∧ w.cell? ⟨b, off + i, none⟩ = some (.slice Q p.length c) ∧ p.length ≤ c ∧ c ≤ maxLen ∧ RdX X w Q (kcells .u8 p) := by
  obtain ⟨vs, h1, h2, h3⟩ := h
  obtain ⟨Q, m, c, e1, rfl, e3, e4, e5⟩ := h3 i p hp
  obtain ⟨b, off, rfl, hlt, _, hc⟩ := h1 (by intro e; rw [e] at e1; simp at e1)
  exact ⟨b, off, Q, c, rfl, hlt, hc i _ e1, e3, e4, e5⟩
theorem RdP.drew {X : Nat → Prop} {w : World} {A : Option Addr} {ps : List (List Int)} (h : RdP X w A ps) (q : Nat) : RdP X (w.drewN q) A ps := h.onlyX (.of_below (Below.drewN (Below.refl _ _) q))
theorem RdP.below {X : Nat → Prop} {w w' : World} {A : Option Addr} {ps : List (List Int)} (h : RdP X w A ps) (hb : Below w.heap.size w w') : RdP X w' A ps := h.onlyX (.of_below hb)

set_option maxHeartbeats 2000000 in
theorem eqfunc_any {X Y : Nat → Prop} (A B : Option Addr) (n m c d : Nat) (a b : List (List Int)) (w : World) (hA : RdP X w A a) (hB : RdP Y w B b) (hn : a.length = n) (hm : b.length = m) (ha : ∀ p ∈ a, Bytes p) (hb : ∀ p ∈ b, Bytes p) (hnm : n ≤ maxLen) (hmm : m ≤ maxLen) :
    Calls Try.prog 126 #[.slice A n c, .slice B m d, .func (.func 127) #[] #[]] w fun e w' => e = .returned (.bool (decide (a = b))) ∧ w = w' := by
  unfold maxLen at hnm hmm
  have HN := Lib.hid hn
  have HM := Lib.hid hm
  have HBA := Lib.hid ha
  have HBB := Lib.hid hb
  clear hn hm ha hb
  by_cases hne : n = m
  · subst hne
    have HA := Lib.hid hA
    have HB := Lib.hid hB
    clear hA hB
    have hne : ((n : Int) != (n : Int)) = false := by simp
    go_enter Try.func126, Try.ntmps126
    go_wp2
    go_loopw [17] (fun i wr => ∃ k : Nat, k ≤ n ∧ i = .int .i64 k ∧ a.take k = b.take k ∧ w = wr) (fun i wr => n - (intOf i).toNat)
    case atStart => exact ⟨0, Nat.zero_le _, rfl, rfl, rfl⟩
    case round =>
      obtain ⟨k, hk, rfl, ht, rfl⟩ := hrel
      have HT := Lib.hid ht
      clear ht
      by_cases hlt : k < n
      · obtain ⟨x, hx⟩ := getElem?_of_lt (l := a) (k := k) (by rw [HN.out]; exact hlt)
        obtain ⟨y, hy⟩ := getElem?_of_lt (l := b) (k := k) (by rw [HM.out]; exact hlt)
        obtain ⟨b1, o1, Q1, c1, rfl, _, e1, _, _, r1⟩ := HA.out.get hx
        obtain ⟨b2, o2, Q2, c2, rfl, _, e2, _, _, r2⟩ := HB.out.get hy
        have HE := Lib.hid (equal_any Q1 Q2 x.length y.length c1 c2 x y w r1.rd r2.rd rfl rfl (HBA.out x (List.mem_of_getElem? hx)) (HBB.out y (List.mem_of_getElem? hy)))
        have HX := Lib.hid hx
        have HY := Lib.hid hy
        generalize x.length = lx at *
        generalize y.length = ly at *
        clear hx hy r1 r2
        by_cases he : x = y
        · rw [decide_eq_true he] at HE
          have HQ := Lib.hid he
          clear he
          go_wp2_with (fail)
          (with_reducible refine HE.out.mono ?_)
          rintro e w1 ⟨rfl, rfl⟩
          go_wp2
          go_roundw
          case rel => exact ⟨k + 1, by omega, by go_num, takeP_step HX.out HY.out HT.out HQ.out, by first | rfl | trivial⟩
          case measure => simp [intOf]; omega
        · rw [decide_eq_false he] at HE
          have HF : Hid (decide (a = b) = false) := decide_eq_false (fun e => he (by
            have h1 := HX.out
            rw [e, HY.out] at h1
            exact (Option.some.inj h1).symm))
          clear he
          go_wp2_with (fail)
          (with_reducible refine HE.out.mono ?_)
          rintro e w1 ⟨rfl, rfl⟩
          go_wp2
          go_ret
          exact ⟨by rw [HF.out]; rfl, rfl⟩
      · have hkn : k = n := by omega
        subst hkn
        have HF : Hid (decide (a = b) = true) := decide_eq_true (by
          have h1 := HT.out
          rwa [List.take_of_length_le (by rw [HN.out]; omega), List.take_of_length_le (by rw [HM.out]; omega)] at h1)
        go_wp2
        go_ret
        exact ⟨by rw [HF.out]; rfl, rfl⟩
  · have hne' : ((n : Int) != (m : Int)) = true := by simp; omega
    have HF : Hid (decide (a = b) = false) := decide_eq_false (fun e => hne (by rw [← HN.out, ← HM.out, e]))
    clear hne
    go_enter Try.func126, Try.ntmps126
    go_wp2
    go_ret
    exact ⟨by rw [HF.out]; rfl, rfl⟩

set_option maxHeartbeats 2000000 in
theorem equal3_any (A A' : Option Addr) (n m c c' : Nat) (l l' : List Int) (w : World) (hA : Rd w w.heap.size A (icells l)) (hA' : Rd w w.heap.size A' (icells l')) (hn : l.length = n) (hm : l'.length = m) (hnm : n ≤ maxLen) (hmm : m ≤ maxLen) :
    Calls Try.prog 131 #[.slice A n c, .slice A' m c'] w fun e w' => e = .returned (.bool (decide (l = l'))) ∧ ∃ k, w' = w.drewN k := by
  unfold maxLen at hnm hmm
  have HN := Lib.hid hn
  have HM := Lib.hid hm
  clear hn hm
  by_cases hne : n = m
  · subst hne
    have HA := Lib.hid hA
    have HA' := Lib.hid hA'
    clear hA hA'
    have hne : ((n : Int) != (n : Int)) = false := by simp
    go_enter Try.func131, Try.ntmps131
    go_wp2
    go_loopw [13] (fun i wr => ∃ k : Nat, k ≤ n ∧ i = .int .i64 k ∧ l.take k = l'.take k ∧ ∃ q, wr = w.drewN q) (fun i wr => n - (intOf i).toNat)
    case atStart => exact ⟨0, Nat.zero_le _, rfl, rfl, 0, rfl⟩
    case round =>
      obtain ⟨k, hk, rfl, ht, q, rfl⟩ := hrel
      have HT := Lib.hid ht
      clear ht
      by_cases hlt : k < n
      · obtain ⟨x, hx⟩ := getElem?_of_lt (l := l) (k := k) (by rw [HN.out]; exact hlt)
        obtain ⟨y, hy⟩ := getElem?_of_lt (l := l') (k := k) (by rw [HM.out]; exact hlt)
        obtain ⟨b, off, rfl, hbl, e0⟩ := HA.out.int hx
        obtain ⟨b', off', rfl, hbl', e1⟩ := HA'.out.int hy
        have HX := Lib.hid hx
        have HY := Lib.hid hy
        clear hx hy
        by_cases he : x = y
        · have he' : (x != y) = false := by simpa using he
          have HE := Lib.hid he
          clear he
          go_wp2
          go_quiet (fail)
          go_wp2
          go_roundw
          case rel => exact ⟨k + 1, by omega, by go_num, take_eq_step HX.out HY.out HT.out HE.out, _, rfl⟩
          case measure => simp [intOf]; omega
        · have he' : (x != y) = true := by simpa using he
          have HE : Hid (decide (l = l') = false) := decide_eq_false (fun e => he (by
            have h1 := HX.out
            rw [e, HY.out] at h1
            exact (Option.some.inj h1).symm))
          clear he
          go_wp2
          go_quiet (fail)
          go_wp2
          go_ret
          exact ⟨by rw [HE.out]; rfl, _, World.drewN_drewN ..⟩
      · have hkn : k = n := by omega
        subst hkn
        have HE : Hid (decide (l = l') = true) := decide_eq_true (by
          have h1 := HT.out
          rwa [List.take_of_length_le (by rw [HN.out]; omega), List.take_of_length_le (by rw [HM.out]; omega)] at h1)
        go_wp2
        go_ret
        exact ⟨by rw [HE.out]; rfl, _, rfl⟩
  · have hne' : ((n : Int) != (m : Int)) = true := by simp; omega
    have HE : Hid (decide (l = l') = false) := decide_eq_false (fun e => hne (by rw [← HN.out, ← HM.out, e]))
    clear hne
    go_enter Try.func131, Try.ntmps131
    go_wp2
    go_ret
    exact ⟨by rw [HE.out]; rfl, 0, rfl⟩
end Go.Proofs.Ytjdknddnanopaaa

/-
  Params: Decode.
-/
namespace Go.Proofs.Ytjdknddnanopaaa
open Go.RowKit
set_option linter.unusedVariables false

theorem quiet_plus {P : Program} {f : FuncId} {args : Array Value} {w : World} {q n : Nat} {v : Value} (h : Calls P f args (w.drewN (q + n)) fun e w' => e = .returned v ∧ w' = w.drewN (q + n)) :
    Calls P f args (w.drewN (q + n)) fun e w'' => e = .returned v ∧ ∃ m, w'' = w.drewN (q + m) := h.mono fun _ _ ⟨a, b⟩ => ⟨a, n, b⟩
/-- What Decode returns. -/
def DecR (w : World) (d : Int × List Int × Int) (e : Ending) (w' : World) : Prop :=
  ∃ A c, e = .returned (.tuple #[.int .i64 d.1, .slice A d.2.1.length c, errV d.2.2]) ∧ w'.ownsRow w.heap.size 3 1 (.slice A d.2.1.length c) d.2.1.length (icells d.2.1) ∧ Below w.heap.size w w'
theorem DecR.none {w w' : World} {k : Int} {v : Value} (hv : v = errV k) (hb : Below w.heap.size w w') : DecR w (0, [], k) (.returned (.tuple #[.int .i64 0, .slice none 0 0, v])) w' :=
  ⟨Option.none, 0, by rw [hv]; rfl, World.ownsRow_nil .., hb⟩

theorem decP_len {ps : List (List Int)} (h : ps.length < 1 ∨ 8 < ps.length) : decP ps = (0, [], 11) := by unfold decP; rw [if_pos h]
theorem decP_sum {ps : List (List Int)} (h : ¬ (ps.length < 1 ∨ 8 < ps.length)) (hg : ps.all goodP = false) : decP ps = (0, [], 19) := by unfold decP; rw [if_neg h, if_pos hg]
theorem decP_form {ps : List (List Int)} {p0 : List Int} {n : Nat} (h : ¬ (ps.length < 1 ∨ 8 < ps.length)) (hg : ps.all goodP = true) (h0 : ps[0]? = some p0) (h1 : p0[1]? = some (n : Int)) (hn : n < 1 ∨ 48 < n ∨ pgs n ≠ ps.length) : decP ps = (0, [], 2) := by
  unfold decP
  rw [if_neg h, if_neg (by rw [hg]; decide), h0]
  simp only [Option.getD_some, h1, Int.toNat_natCast]
  rw [if_pos (by omega)]
theorem decP_end {ps : List (List Int)} {p0 : List Int} {n : Nat} (h : ¬ (ps.length < 1 ∨ 8 < ps.length)) (hg : ps.all goodP = true) (h0 : ps[0]? = some p0) (h1 : p0[1]? = some (n : Int)) (hn : ¬ (n < 1 ∨ 48 < n ∨ pgs n ≠ ps.length)) :
    decP ps = if encE (asI (numB ((p0.drop 2).take 6))) n ≠ 0 ∨ encP (asI (numB ((p0.drop 2).take 6))) ((List.range n).map (decV ps)) ≠ ps then (0, [], 2) else (asI (numB ((p0.drop 2).take 6)), (List.range n).map (decV ps), 0) := by
  unfold decP
  rw [if_neg h, if_neg (by rw [hg]; decide), h0]
  simp only [Option.getD_some, h1, Int.toNat_natCast, List.length_map, List.length_range]
  rw [if_neg (by omega)]
theorem all_step {ps : List (List Int)} {k : Nat} {p : List Int} (hp : ps[k]? = some p) (h : (ps.take k).all goodP = true) (hg : goodP p = true) : (ps.take (k + 1)).all goodP = true := by
  rw [take_snoc_get ps k p hp, List.all_append, h, Bool.true_and]
  simp [hg]
theorem all_not {ps : List (List Int)} {k : Nat} {p : List Int} (hp : ps[k]? = some p) (hg : goodP p = false) : ps.all goodP = false := by
  rw [List.all_eq_false]
  exact ⟨p, List.mem_of_getElem? hp, by rw [hg]; decide⟩
theorem goodP_len {p : List Int} (h : goodP p = true) : p.length = 64 := by
  unfold goodP at h
  rw [decide_eq_true_eq] at h
  exact h.1
theorem range_map_succ {f : Nat → Int} (k : Nat) : (List.range (k + 1)).map f = (List.range k).map f ++ [f k] := by
  rw [List.range_succ, List.map_append]
  rfl
theorem decV_get {ps : List (List Int)} {i : Nat} {p : List Int} (hp : ps[i / 6]? = some p) : decV ps i = asI (numB ((p.drop (8 + 8 * (i % 6))).take 8)) := by
  unfold decV
  rw [hp]
  rfl
theorem range_map_i64 {ps : List (List Int)} {n : Nat} : ∀ x ∈ (List.range n).map (decV ps), I64 x := by
  intro x hx
  rw [List.mem_map] at hx
  obtain ⟨i, _, rfl⟩ := hx
  exact decV_range _ _

set_option maxRecDepth 100000 in
set_option maxHeartbeats 8000000 in
theorem decode_any {X : Nat → Prop} (A : Option Addr) (n c : Nat) (ps : List (List Int)) (w : World) (hA : RdP X w A ps) (hn : ps.length = n) (hnc : n ≤ c) (hcm : c ≤ maxLen) (hb : ∀ p ∈ ps, Bytes p) :
    Calls Try.prog 100 #[.slice A n c] w (DecR w (decP ps)) := by
  unfold maxLen at hcm
  have g1 := ne_nil
  have g2 := ne_err
  have HW1 := Lib.hid (fun w => within51 n 1 8 w)
  by_cases hl : ps.length < 1 ∨ 8 < ps.length
  · have HD := Lib.hid (decP_len hl)
    rw [decide_eq_false (show ¬ (1 ≤ (n : Int) ∧ (n : Int) ≤ 8) by omega)] at HW1
    clear hA hn hb hl
    go_enter Try.func100, Try.ntmps100
    go_wp2_with (fail)
    (with_reducible refine (HW1.out w).mono ?_)
    rintro e w1 ⟨rfl, rfl⟩
    go_wp2
    go_ret3
    rw [HD.out]
    exact .none rfl (Below.refl _ _)
  rw [decide_eq_true (show 1 ≤ (n : Int) ∧ (n : Int) ≤ 8 by omega)] at HW1
  have n1 : 1 ≤ n := by omega
  have n8 : n ≤ 8 := by omega
  have HL := Lib.hid hl
  have HA := Lib.hid hA
  have HN := Lib.hid hn
  have HB := Lib.hid hb
  clear hA hn hb hl
  go_enter Try.func100, Try.ntmps100
  go_wp2_with (fail)
  (with_reducible refine (HW1.out w).mono ?_)
  rintro e w1 ⟨rfl, rfl⟩
  go_wp2
  go_loopw [3, 20] (fun v i wr => ∃ k : Nat, k ≤ n ∧ i = .int .i64 k ∧ v = .slice none 0 0 ∧ (ps.take k).all goodP = true ∧ ∃ q, wr = w.drewN q) (fun _ i _ => n - (intOf i).toNat)
  case atStart => exact ⟨0, Nat.zero_le _, rfl, rfl, rfl, 0, rfl⟩
  case round =>
    obtain ⟨k, hk, rfl, rfl, ht, q, rfl⟩ := hrel
    have HT := Lib.hid ht
    clear ht
    by_cases hlt : k < n
    · obtain ⟨p, hp⟩ := getElem?_of_lt (l := ps) (k := k) (by rw [HN.out]; exact hlt)
      obtain ⟨ba, off, Q, cc, rfl, _, e1, p1, p2, r1⟩ := (HA.out.drew q).get hp
      have HG := Lib.hid (good_any Q p.length cc p (w.drewN q) r1.rd rfl p1 p2 (HB.out p (List.mem_of_getElem? hp)))
      have HP := Lib.hid hp
      have HGP : Hid (goodP p = goodP p) := rfl
      generalize p.length = lp at *
      clear hp r1 p1 p2
      by_cases hg : goodP p = true
      · rw [hg] at HG
        have HS := Lib.hid (all_step HP.out HT.out hg)
        clear hg
        go_wp2_with (fail)
        (with_reducible refine HG.out.mono ?_)
        rintro e w2 ⟨rfl, q2, rfl⟩
        go_wp2
        go_roundw
        case rel => exact ⟨k + 1, by omega, by go_num, by first | rfl | trivial, HS.out, _, rfl⟩
        case measure => simp [intOf]; omega
      · have hg' : goodP p = false := by simpa using hg
        rw [hg'] at HG
        have HD := Lib.hid (decP_sum HL.out (all_not HP.out hg'))
        clear hg hg'
        go_wp2_with (fail)
        (with_reducible refine HG.out.mono ?_)
        rintro e w2 ⟨rfl, q2, rfl⟩
        go_wp2
        go_ret3
        rw [HD.out]
        exact .none rfl (Below.drewN (Below.refl _ _) _)
    · have hkn : k = n := by omega
      subst hkn
      have hall : ps.all goodP = true := by
        have := HT.out
        rwa [List.take_of_length_le (by rw [HN.out]; exact Nat.le_refl _)] at this
      obtain ⟨p0, hp0⟩ := getElem?_of_lt (l := ps) (k := 0) (by rw [HN.out]; omega)
      have hl0 : p0.length = 64 := goodP_len (List.all_eq_true.1 hall p0 (List.mem_of_getElem? hp0))
      obtain ⟨x1, hx1⟩ := getElem?_of_lt (l := p0) (k := 1) (by omega)
      have hxb := HB.out p0 (List.mem_of_getElem? hp0) x1 (List.mem_of_getElem? hx1)
      obtain ⟨n0, rfl⟩ := Int.eq_ofNat_of_zero_le hxb.1
      obtain ⟨ba, off, Q0, c0, rfl, hbA, e0, p1, p2, r0⟩ := HA.out.get hp0
      rw [hl0] at e0 p1
      rw [Nat.add_zero] at e0
      obtain ⟨g, o, rfl, hgl, e1⟩ := r0.rd.kint hx1
      have H84 : Hid (∀ q2, Calls Try.prog 124 #[.slice (some ⟨g, o + 2, none⟩) 6 (c0 - 2)] (w.drewN q2) fun e w' => e = .returned (.int .u64 (numB ((p0.drop 2).take 6))) ∧ w' = w.drewN q2) :=
        fun q2 => number_q (r0.rd.part 2 6) (by rw [List.length_take, List.length_drop, hl0]; rfl) (bytes_take (bytes_drop (HB.out p0 (List.mem_of_getElem? hp0)) 2) 6) (by omega)
      have HALL := Lib.hid hall
      have HP0 := Lib.hid hp0
      have HX1 := Lib.hid hx1
      have n256 : n0 < 256 := by omega
      have HW2 := Lib.hid (fun w => within51 n0 1 48 w)
      have HASI : Hid (IntKind.i64.wrap (numB ((p0.drop 2).take 6)) = asI (numB ((p0.drop 2).take 6))) := rfl
      obtain ⟨s0, hs0⟩ : ∃ s, numB ((p0.drop 2).take 6) = s := ⟨_, rfl⟩
      have HS0 := Lib.hid hs0
      rw [hs0] at H84 HASI
      obtain ⟨s, hs⟩ : ∃ t, asI s0 = t := ⟨_, rfl⟩
      rw [hs] at HASI
      have hw0 : IntKind.i64.wrap s0 = s := HASI.out
      have HSS : Hid (asI (numB ((p0.drop 2).take 6)) = s) := by rw [Hid, HS0.out]; exact hs
      unfold maxLen at p2
      clear hall hp0 hl0 hx1 hxb r0 hs0 hs
      have k0 : 0 < k := by omega
      go_wp2
      have q0 : (8 : Int) ≤ (c0 : Int) := by omega
      have q9 : ¬ (c0 = 2) := by omega
      have hw1 : IntKind.i64.wrap (n0 : Int) = n0 := IntWalk.i64_in _ (by omega)
      go_quiet ((go_at_call 124; with_reducible exact quiet_plus (H84.out _)))
      clear hw0 hw1 q0 q9 e1
      by_cases hf : n0 < 1 ∨ 48 < n0 ∨ pgs n0 ≠ k
      · have HD := Lib.hid (decP_form HL.out HALL.out HP0.out HX1.out (by rw [HN.out]; exact hf))
        by_cases h48 : 1 ≤ n0 ∧ n0 ≤ 48
        · have HPG := Lib.hid (fun w => pgs_any n0 (by omega) w)
          have hne : ((pgs n0 : Nat) : Int) != (k : Int) := by simp; omega
          rw [decide_eq_true (show 1 ≤ (n0 : Int) ∧ (n0 : Int) ≤ 48 by omega)] at HW2
          generalize pgs n0 = P at *
          clear hf h48
          go_wp2_with (fail)
          (with_reducible refine (HW2.out _).mono ?_)
          rintro e w1 ⟨rfl, rfl⟩
          go_wp2_with (fail)
          (with_reducible refine (HPG.out _).mono ?_)
          rintro e w1 ⟨rfl, rfl⟩
          go_wp2
          go_ret3
          rw [HD.out]
          exact .none rfl (Below.drewN (Below.refl _ _) _)
        · rw [decide_eq_false (show ¬ (1 ≤ (n0 : Int) ∧ (n0 : Int) ≤ 48) by omega)] at HW2
          clear hf h48
          go_wp2_with (fail)
          (with_reducible refine (HW2.out _).mono ?_)
          rintro e w1 ⟨rfl, rfl⟩
          go_wp2
          go_ret3
          rw [HD.out]
          exact .none rfl (Below.drewN (Below.refl _ _) _)
      · have HD := Lib.hid (decP_end HL.out HALL.out HP0.out HX1.out (by rw [HN.out]; exact hf))
        rw [HSS.out] at HD
        have m1 : 1 ≤ n0 := by omega
        have m48 : n0 ≤ 48 := by omega
        have hpk : pgs n0 = k := by omega
        have HPG := Lib.hid (fun w => pgs_any n0 (by omega) w)
        rw [decide_eq_true (show 1 ≤ (n0 : Int) ∧ (n0 : Int) ≤ 48 by omega)] at HW2
        rw [hpk] at HPG
        have HPK := Lib.hid hpk
        have hne : ((k : Int) != (k : Int)) = false := by simp
        obtain ⟨wq, hwq⟩ : ∃ v, (w.drewN q).drewN nq = v := ⟨_, rfl⟩
        have HBQ : Hid (Below w.heap.size w wq) := by rw [← hwq, World.drewN_drewN]; exact Below.drewN (Below.refl _ _) _
        rw [hwq]
        clear hf hpk hwq
        go_wp2_with (fail)
        (with_reducible refine (HW2.out _).mono ?_)
        rintro e w1 ⟨rfl, rfl⟩
        go_wp2_with (fail)
        (with_reducible refine (HPG.out _).mono ?_)
        rintro e w1 ⟨rfl, rfl⟩
        obtain ⟨i3, hi3, hz30, hz31, hz32⟩ := info_parts info3
        go_wp2
        go_loopw [3, 53] (fun v i wr => ∃ j : Nat, j ≤ n0 ∧ i = .int .i64 j ∧ wr.ownsRow w.heap.size 3 1 v j (icells ((List.range j).map (decV ps))) ∧ Below w.heap.size w wr) (fun _ i _ => n0 - (intOf i).toNat)
        case atStart => exact ⟨0, Nat.zero_le _, rfl, World.ownsRow_nil _ _ _ _, HBQ.out⟩
        case round =>
          obtain ⟨j, hj, rfl, hO, hBl⟩ := hrel
          have HO := Lib.hid hO
          have HBl := Lib.hid hBl
          clear hO hBl
          by_cases hltj : j < n0
          · have hpi : j / 6 < k := by have := HPK.out; unfold pgs at this; omega
            obtain ⟨p, hp⟩ := getElem?_of_lt (l := ps) (k := j / 6) (by rw [HN.out]; exact hpi)
            have hlp : p.length = 64 := goodP_len (List.all_eq_true.1 HALL.out p (List.mem_of_getElem? hp))
            obtain ⟨ba', off', Q, cc, eA, _, e2, p3, p4, r1⟩ := (HA.out.below HBl.out).get hp
            injection eA with eA
            injection eA with eA1 eA2
            subst eA1
            subst eA2
            rw [hlp] at e2 p3
            obtain ⟨g2, o2, rfl⟩ : ∃ g2 o2, Q = some ⟨g2, o2, none⟩ := by
              obtain ⟨x, hx⟩ := getElem?_of_lt (l := p) (k := 0) (by omega)
              obtain ⟨b', o', e, _⟩ := r1.rd.kint hx
              exact ⟨b', o', e⟩
            obtain ⟨at', hat⟩ : ∃ a, 8 + 8 * (j % 6) = a := ⟨_, rfl⟩
            have ha56 : at' + 8 ≤ 64 := by omega
            have t1 : (j : Int) % 6 = ((j % 6 : Nat) : Int) := by omega
            have t2 : (8 : Int) + 8 * ((j % 6 : Nat) : Int) = (at' : Int) := by omega
            have t3 : (j : Int) / 6 = ((j / 6 : Nat) : Int) := by omega
            have HV : Hid (asI (numB ((p.drop at').take 8)) = decV ps j) := by rw [Hid, decV_get hp, hat]
            have HNUM := Lib.hid (number_any (some ⟨g2, o2 + at', none⟩) 8 (cc - at') ((p.drop at').take 8) wr (r1.rd.part at' 8) (by rw [List.length_take, List.length_drop, hlp]; omega) (bytes_take (bytes_drop (HB.out p (List.mem_of_getElem? hp)) at') 8) (by omega))
            obtain ⟨N, hN⟩ : ∃ N, numB ((p.drop at').take 8) = N := ⟨_, rfl⟩
            rw [hN] at HV HNUM
            have t4 : ¬ (cc = at') := by omega
            unfold maxLen at p4
            generalize j / 6 = pi at *
            generalize j % 6 = pj at *
            clear hp hlp r1 hN hat
            go_wp2_with (fail)
            (with_reducible refine HNUM.out.mono ?_)
            rintro e w2 ⟨rfl, rfl⟩
            have t5 : IntKind.i64.wrap N = decV ps j := HV.out
            go_wp2_with (at_builtin; refine wpList_append_own _ rfl _ _ 35 rfl w.heap.size 3 i3 (.int .i64 0) 1 8 Try.underlying35 hi3 hz30 hz31 hz32 rfl (by omega) _ _ _ rfl (own_below HO.out ((Below.refl _ _).alloc (Nat.le_refl _) _)) ⟨wr.heap.size, 0, none⟩ 1 1 [.int .i64 (decV ps j)] rfl rfl (cell_one_new _ _ _) (by simp [Value.oneCell']) (by unfold maxLen; omega) (by omega) (by have := HBl.out.size; simp; omega) ?_)
            intro v' w8 hown8 hgrow8 _
            have HO8 : Hid (w8.ownsRow w.heap.size 3 1 v' (j + 1) (icells ((List.range (j + 1)).map (decV ps)))) := by
              rw [Hid, range_map_succ, icells, List.map_append]
              exact hown8
            have HB8 : Hid (Below w.heap.size w w8) := (HBl.out.alloc HBl.out.size _).grown hgrow8 (by have := HBl.out.size; simp; omega) (fun k hk => (HO.out.lt k hk).1)
            clear hown8 hgrow8 t5
            go_wp2
            go_roundw
            case rel => exact ⟨j + 1, by omega, by go_num, HO8.out, HB8.out⟩
            case measure => simp [intOf]; omega
          · have hjn : j = n0 := by omega
            subst hjn
            obtain ⟨A', c', rfl, h1, h2, hr⟩ := own_read HO.out
            have HR := Lib.hid hr
            have HC := Lib.hid (And.intro h1 h2)
            have hF : ∀ b, (fun _ : Nat => False) b → b < wr.heap.size := fun b h => h.elim
            obtain ⟨vals, hvals⟩ : ∃ v, (List.range j).map (decV ps) = v := ⟨_, rfl⟩
            have hvl : vals.length = j := by rw [← hvals]; simp
            have hvr : ∀ x ∈ vals, I64 x := by rw [← hvals]; exact range_map_i64
            rw [hvals] at HD HR HO
            have HVL := Lib.hid hvl
            clear h1 h2 hr hvals
            by_cases he : encE s j = 0
            · have HE := Lib.hid (enc_yes (fun _ => False) s A' j c' vals wr hF HR.out hvl HC.out.1 HC.out.2 hvr he)
              rw [HPK.out] at HE
              have HEL : Hid ((encP s vals).length = k) := by rw [Hid, encP_length, HVL.out]; exact HPK.out
              have HEB : Hid (∀ p ∈ encP s vals, Bytes p) := fun p hp => (encP_ok (by rw [HVL.out]; omega) p hp).2
              clear hF hvl hvr
              go_wp2_with (fail)
              (with_reducible refine HE.out.mono ?_)
              rintro e w3 ⟨A3, c3, rfl, h1, h2, hr3, hb3⟩
              have HR3 := Lib.hid hr3
              have HB3 : Hid (Below w.heap.size w w3) := HBl.out.trans (hb3.mono HBl.out.size)
              have HO3 := Lib.hid (own_below HO.out hb3)
              have HQ := Lib.hid (eqfunc_any A3 (some ⟨ba, off, none⟩) k k c3 c (encP s vals) ps w3 HR3.out (HA.out.below HB3.out) HEL.out HN.out HEB.out HB.out (by unfold maxLen; omega) (by unfold maxLen; omega))
              clear h1 h2 hr3 hb3
              by_cases hq : encP s vals = ps
              · rw [decide_eq_true hq] at HQ
                have HF : Hid (decP ps = (s, vals, 0)) := by
                  rw [Hid, HD.out, if_neg]
                  rintro (h | h)
                  · exact h he
                  · exact h hq
                clear hq he
                go_wp2_with (fail)
                (with_reducible refine HQ.out.mono ?_)
                rintro e w4 ⟨rfl, rfl⟩
                go_wp2
                go_ret3
                rw [HF.out]
                refine ⟨A', c', ?_, ?_, HB3.out⟩
                · simp only [HVL.out]; rfl
                · simp only [HVL.out]; exact HO3.out
              · rw [decide_eq_false hq] at HQ
                have HF : Hid (decP ps = (0, [], 2)) := by
                  rw [Hid, HD.out, if_pos (.inr hq)]
                clear hq he
                go_wp2_with (fail)
                (with_reducible refine HQ.out.mono ?_)
                rintro e w4 ⟨rfl, rfl⟩
                go_wp2
                go_ret3
                rw [HF.out]
                exact .none rfl HB3.out
            · have HE := Lib.hid (enc_no s A' j c' wr (by omega) he)
              have HF : Hid (decP ps = (0, [], 2)) := by
                rw [Hid, HD.out, if_pos (.inl he)]
              clear hF hvl hvr he
              go_wp2_with (fail)
              (with_reducible refine HE.out.mono ?_)
              rintro e w3 ⟨rfl, rfl⟩
              go_wp2
              go_ret3
              rw [HF.out]
              exact .none rfl HBl.out
end Go.Proofs.Ytjdknddnanopaaa

/-
  Params: a store's small functions.
-/
namespace Go.Proofs.Ytjdknddnanopaaa
open Go.RowKit
set_option linter.unusedVariables false

theorem eqq_some (d : Nat) (w : World) : (binOp .eql 114 (.pointer (some ⟨d, 0, none⟩)) (.pointer none)).run Try.prog w = .ok (.bool false) w := by kernel_rfl
theorem eqq_none (w : World) : (binOp .eql 114 (.pointer none) (.pointer none)).run Try.prog w = .ok (.bool true) w := by kernel_rfl

theorem RdX.par {X : Nat → Prop} {w : World} {A : Option Addr} {l : List Par} (h : RdX X w A (pcells l)) {k : Nat} {p : Par} (hp : l[k]? = some p) :
    ∃ b off, A = some ⟨b, off, none⟩ ∧ b < w.heap.size ∧ w.cell? ⟨b, off + k * 3, none⟩ = some (.int .i64 p.lo) ∧ w.cell? ⟨b, off + k * 3 + 1, none⟩ = some (.int .i64 p.hi) ∧ w.cell? ⟨b, off + k * 3 + 2, none⟩ = some (.int .i64 p.df) := by
  have g : ∀ j u, p.cells[j]? = some u → (pcells l)[k * 3 + j]? = some u := fun j u hu => flat_get Par.cells 3 (fun _ => rfl) l k j p u hp hu
  obtain ⟨b, off, e, hlt, _, hc⟩ := h (by
    intro e
    have := g 0 _ rfl
    rw [e] at this
    simp at this)
  exact ⟨b, off, e, hlt, hc _ _ (g 0 _ rfl), hc _ _ (g 1 _ rfl), hc _ _ (g 2 _ rfl)⟩

section
variable {w0 w : World} {L : Lc} {S : Sc} {f : Fl} {s : St}

theorem pages_q (h : FlAt w0 w L f) (q : Nat) : Calls Try.prog 64 #[.pointer (some ⟨L.d, 0, none⟩)] (w.drewN q) fun e w' => e = .returned (.int .i64 (f.pg : Nat)) ∧ w' = w.drewN q :=
  (pages_any (h.drewN q)).mono fun _ _ ⟨a, b⟩ => ⟨a, b.symm⟩
theorem pgs_q (n : Nat) (hn : n < 1000000000000) (w : World) : Calls Try.prog 122 #[.int .i64 (n : Int)] w fun e w' => e = .returned (.int .i64 (pgs n : Nat)) ∧ w' = w :=
  (pgs_any n hn w).mono fun _ _ ⟨a, b⟩ => ⟨a, b.symm⟩
theorem within_q (n lo hi : Int) (w : World) : Calls Try.prog 109 #[.int .i64 n, .int .i64 lo, .int .i64 hi] w fun e w' => e = .returned (.bool (decide (lo ≤ n ∧ n ≤ hi))) ∧ w' = w :=
  (within51 n lo hi w).mono fun _ _ ⟨a, b⟩ => ⟨a, b.symm⟩

theorem slots_h (hfl : FlAt w0 w L f) {D : Nat} {A : Option Addr} {n c : Nat} (c0 : w.cell? ⟨D, 0, none⟩ = some (.pointer (some ⟨L.d, 0, none⟩))) (c3 : w.cell? ⟨D, 3, none⟩ = some (.slice A n c)) (n1 : 1 ≤ n) (n2 : n ≤ 48) :
    Calls Try.prog 98 #[.pointer (some ⟨D, 0, none⟩)] w fun e w' => e = .returned (.int .i64 (f.pg / pgs n : Nat)) ∧ ∃ q, w' = w.drewN q := by
  have H43 := Lib.hid (pages_q hfl)
  have H88 := Lib.hid (fun w => pgs_q n (by omega) w)
  have hp := hfl.ok.p2
  have hk1 := pgs_pos n1
  have hk8 := pgs_le n2
  generalize hk : pgs n = k at *
  obtain ⟨T, hT'⟩ : ∃ T, f.pg / k = T := ⟨_, rfl⟩
  rw [hT']
  generalize f.pg = pg at *
  have hTl : T ≤ 16 := by rw [← hT']; exact Nat.le_trans (Nat.div_le_self _ _) hp
  have t1 : Hid (wrap64 ((pg : Int) / (k : Int)) = (T : Int)) := by
    rw [Hid, show (pg : Int) / (k : Int) = (T : Int) by rw [← hT']; push_cast; rfl]
    unfold wrap64
    omega
  have t2 : ((k : Int) == 0) = false := by simp; omega
  have t3 : ¬ (k = 0) := by omega
  clear hfl hk hT'
  go_enter Try.func98, Try.ntmps98
  go_wp2
  go_quiet ((first | (go_at_call 64; with_reducible exact Calls.quiet_of_same (H43.out _)) | (go_at_call 122; with_reducible exact Calls.quiet_of_same (H88.out _))))
  go_wp2
  go_ret
  refine ⟨?_, _, rfl⟩
  show Ending.returned (Value.int .i64 (wrap64 ((pg : Int) / (k : Int)))) = _
  rw [t1.out]
theorem slots_any (h : StAt w0 w L S f s) (ho : StOk f s) : Calls Try.prog 98 #[.pointer (some ⟨S.D, 0, none⟩)] w fun e w' => e = .returned (.int .i64 (slotsS s f : Nat)) ∧ ∃ q, w' = w.drewN q :=
  slots_h h.fl (h.row 0 _ rfl) (h.row 3 _ rfl) ho.n1 ho.n2

theorem spage_h (hfl : FlAt w0 w L f) {D fi : Nat} {A : Option Addr} {n c : Nat} (c0 : w.cell? ⟨D, 0, none⟩ = some (.pointer (some ⟨L.d, 0, none⟩))) (c1 : w.cell? ⟨D, 1, none⟩ = some (.int .i64 fi)) (c3 : w.cell? ⟨D, 3, none⟩ = some (.slice A n c)) (n1 : 1 ≤ n) (n2 : n ≤ 48) (hf : fi ≤ 64)
    (bi ji : Int) (b j : Nat) (hb : bi = b) (hj : ji = j) (hb2 : b < 1000) (hj2 : j < 1000) :
    Calls Try.prog 116 #[.pointer (some ⟨D, 0, none⟩), .int .i64 bi, .int .i64 ji] w fun e w' => e = .returned (.int .i64 ((fi + b) * f.pg + j * pgs n : Nat)) ∧ ∃ q, w' = w.drewN q := by
  subst hb hj
  have H43 := Lib.hid (pages_q hfl)
  have H88 := Lib.hid (fun w => pgs_q n (by omega) w)
  have hp := hfl.ok.p2
  have hk1 := pgs_pos n1
  have hk8 := pgs_le n2
  generalize hk : pgs n = k at *
  generalize f.pg = pg at *
  obtain ⟨u1, hu1⟩ : ∃ u, (fi + b) * pg = u := ⟨_, rfl⟩
  obtain ⟨u2, hu2⟩ : ∃ u, j * k = u := ⟨_, rfl⟩
  have hl1 : u1 ≤ 100000 := by rw [← hu1]; have := Nat.mul_le_mul (show fi + b ≤ 1064 by omega) hp; omega
  have hl2 : u2 ≤ 100000 := by rw [← hu2]; have := Nat.mul_le_mul (show j ≤ 1000 by omega) hk8; omega
  have t0 : IntKind.i64.wrap ((fi : Int) + (b : Int)) = (fi : Int) + (b : Int) := IntWalk.i64_in _ (by omega)
  have t1 : IntKind.i64.wrap (((fi : Int) + (b : Int)) * (pg : Int)) = (u1 : Int) := by
    rw [show ((fi : Int) + (b : Int)) * (pg : Int) = (u1 : Int) by rw [← hu1]; push_cast; rfl]
    exact IntWalk.i64_in _ (by omega)
  have t2 : IntKind.i64.wrap ((j : Int) * (k : Int)) = (u2 : Int) := by
    rw [show (j : Int) * (k : Int) = (u2 : Int) by rw [← hu2]; push_cast; rfl]
    exact IntWalk.i64_in _ (by omega)
  have t3 : IntKind.i64.wrap ((u1 : Int) + (u2 : Int)) = (u1 : Int) + (u2 : Int) := IntWalk.i64_in _ (by omega)
  rw [hu1, hu2]
  clear hfl hk hu1 hu2
  go_enter Try.func116, Try.ntmps116
  go_wp2
  go_quiet ((first | (go_at_call 64; with_reducible exact Calls.quiet_of_same (H43.out _)) | (go_at_call 122; with_reducible exact Calls.quiet_of_same (H88.out _))))
  go_wp2
  go_ret
  exact ⟨by go_num, _, rfl⟩
theorem spage_any (h : StAt w0 w L S f s) (ho : StOk f s) (bi ji : Int) (b j : Nat) (hb : bi = b) (hj : ji = j) (hb2 : b < 1000) (hj2 : j < 1000) :
    Calls Try.prog 116 #[.pointer (some ⟨S.D, 0, none⟩), .int .i64 bi, .int .i64 ji] w fun e w' => e = .returned (.int .i64 (pageS s f b j : Nat)) ∧ ∃ q, w' = w.drewN q :=
  spage_h h.fl (h.row 0 _ rfl) (h.row 1 _ rfl) (h.row 3 _ rfl) ho.n1 ho.n2 (by have := ho.fb; have := h.fl.ok.b2; omega) bi ji b j hb hj hb2 hj2

theorem saved_any (h : StAt w0 w L S f s) (ho : StOk f s) : Calls Try.prog 85 #[.pointer (some ⟨S.D, 0, none⟩)] w fun e w' => ∃ v', e = .returned v' ∧ w'.ownsRow w.heap.size 3 1 v' s.spec.length (icells s.saved) ∧ Below w.heap.size w w' := by
  have h1 := eqq_some S.D
  have c4 := h.row 4 _ rfl
  have HC := Lib.hid (clone3_any S.Av s.saved.length S.cv w.heap.size s.saved w h.sl.sv.rd (Nat.le_refl _) rfl (by rw [ho.sl]; have := ho.n2; omega))
  rw [ho.sl] at HC c4
  clear h ho
  go_enter Try.func85, Try.ntmps85
  go_wp2_with (fail)
  (with_reducible refine HC.out.mono ?_)
  rintro e w1 ⟨v', rfl, ho, hb⟩
  have HO := Lib.hid ho
  have HB := Lib.hid hb
  clear ho hb
  go_wp2
  go_ret
  exact ⟨v', rfl, HO.out, HB.out⟩

end
end Go.Proofs.Ytjdknddnanopaaa

/-
  Params: Set.
-/
namespace Go.Proofs.Ytjdknddnanopaaa
open Go.RowKit
set_option linter.unusedVariables false

section
variable {w0 w : World} {L : Lc} {S : Sc} {f : Fl} {s : St}

theorem pcells_length (l : List Par) : (pcells l).length = l.length * 3 := flat_length Par.cells 3 (fun _ => rfl) l
/-- What a call that sets does. -/
def SetR (w0 w : World) (L : Lc) (S : Sc) (f : Fl) (s : St) (i v : Int) (e : Ending) (w' : World) : Prop :=
  e = .returned (errV (setE s i v)) ∧ StAt w0 w' L S f (setF s i v) ∧ OnlyX (Own5 L S) w w'

set_option maxHeartbeats 2000000 in
theorem set_any (h : StAt w0 w L S f s) (ho : StOk f s) (i v : Int) :
    Calls Try.prog 67 #[.pointer (some ⟨S.D, 0, none⟩), .int .i64 i, .int .i64 v] w (SetR w0 w L S f s i v) := by
  have h1 := eqq_some S.D
  have c3 := h.row 3 _ rfl
  have c5 := h.row 5 _ rfl
  have c9 := h.row 9 _ rfl
  have hn1 := ho.n1
  have hn2 := ho.n2
  have hcg := h.cg
  unfold maxLen at hcg
  obtain ⟨hg1, hg2⟩ := hcg
  rw [ho.tl] at c5 hg1
  have H := Lib.hid h
  by_cases hb : s.broken = true
  · have HE : Hid (setE s i v = 20) := by unfold setE; rw [Hid, if_pos hb]
    have HF : Hid (setF s i v = s) := by unfold setF; rw [Hid, HE.out, if_neg (by decide)]
    rw [hb] at c9
    clear h ho hb
    go_enter Try.func67, Try.ntmps67
    go_wp2
    go_ret
    unfold SetR
    rw [HE.out, HF.out]
    exact ⟨rfl, H.out, OnlyX.refl _ _⟩
  have hb' : s.broken = false := by simpa using hb
  rw [hb'] at c9
  have HW := Lib.hid (fun w => within51 i 0 ((s.spec.length : Int) - 1) w)
  by_cases hi : 0 ≤ i ∧ i ≤ (s.spec.length : Int) - 1
  · obtain ⟨j, rfl⟩ := Int.eq_ofNat_of_zero_le hi.1
    have hj : j < s.spec.length := by omega
    obtain ⟨p, hp⟩ := getElem?_of_lt hj
    obtain ⟨b, off, hA, hbl, e0, e1, e2⟩ := h.sl.sp.par hp
    have hs1 := h.sl.sp1
    have hs2 := h.sl.sp2
    unfold maxLen at hs2
    rw [hA] at c3
    have HWV : Hid (∀ q, Calls Try.prog 109 #[.int .i64 v, .int .i64 p.lo, .int .i64 p.hi] (w.drewN q) fun e w' => e = .returned (.bool (inPar p v)) ∧ w' = w.drewN q) := fun q => within_q v p.lo p.hi (w.drewN q)
    rw [decide_eq_true hi] at HW
    have f0 : ∀ q, (w.drewN q).frozen? ⟨S.G, j, none⟩ = false := fun q => ((Below.drewN (Below.refl w.heap.size w) q).frozen (p := ⟨S.G, j, none⟩) h.gl.2).trans (h.sg.frozenAt j)
    obtain ⟨x, hx⟩ := getElem?_of_lt (l := s.staged) (k := j) (by rw [ho.tl]; omega)
    have d0 : w.cell? ⟨S.G, j, none⟩ = some (.int .i64 x) := by
      rw [h.sg.cellAt j (by rw [ho.tl]; omega)]
      simp [icells, hx]
    by_cases hv : inPar p v = true
    · have HE : Hid (setE s j v = 0) := by
        unfold setE
        rw [Hid, if_neg hb, if_neg (by omega), Int.toNat_natCast, hp, Option.getD_some, hv, if_neg (by decide)]
      have HF : Hid (setF s j v = { s with staged := s.staged.set j v }) := by unfold setF; rw [Hid, HE.out, if_pos rfl, Int.toNat_natCast]
      have HST : Hid (∀ q, StAt w0 ((w.drewN q).setCell ⟨S.G, j, none⟩ (.int .i64 v)) L S f { s with staged := s.staged.set j v } ∧ OnlyX (Own5 L S) w ((w.drewN q).setCell ⟨S.G, j, none⟩ (.int .i64 v))) := fun q => by
        have hb := Below.drewN (Below.refl w.heap.size w) q
        obtain ⟨a1, a2⟩ := (H.out.later hb).stage j v
        exact ⟨a1, (OnlyX.of_below hb).trans a2⟩
      rw [hv] at HWV
      generalize s.spec.length = n at *
      clear h ho hb hb' hi hp hA hx hv
      go_enter Try.func67, Try.ntmps67
      go_wp2_with (fail)
      (with_reducible refine (HW.out _).mono ?_)
      rintro e w1 ⟨rfl, rfl⟩
      go_wp2
      go_quiet ((go_at_call 109; with_reducible exact Calls.quiet_of_same (HWV.out _)))
      go_wp2
      go_ret
      unfold SetR
      rw [HE.out, HF.out]
      exact ⟨rfl, (HST.out _).1, (HST.out _).2⟩
    · have hv' : inPar p v = false := by simpa using hv
      have HE : Hid (setE s j v = 3) := by
        unfold setE
        rw [Hid, if_neg hb, if_neg (by omega), Int.toNat_natCast, hp, Option.getD_some, hv', if_pos rfl]
      have HF : Hid (setF s j v = s) := by unfold setF; rw [Hid, HE.out, if_neg (by decide)]
      rw [hv'] at HWV
      generalize s.spec.length = n at *
      clear h ho hb hb' hi hp hA hx hv hv' f0 d0
      go_enter Try.func67, Try.ntmps67
      go_wp2_with (fail)
      (with_reducible refine (HW.out _).mono ?_)
      rintro e w1 ⟨rfl, rfl⟩
      go_wp2
      go_quiet ((go_at_call 109; with_reducible exact Calls.quiet_of_same (HWV.out _)))
      go_wp2
      go_ret
      unfold SetR
      rw [HE.out, HF.out]
      exact ⟨rfl, H.out.later (Below.drewN (Below.refl _ _) _), OnlyX.of_below (Below.drewN (Below.refl _ _) _)⟩
  · have HE : Hid (setE s i v = 10) := by
      unfold setE
      rw [Hid, if_neg hb, if_pos (by omega)]
    have HF : Hid (setF s i v = s) := by unfold setF; rw [Hid, HE.out, if_neg (by decide)]
    rw [decide_eq_false hi] at HW
    generalize s.spec.length = n at *
    clear h ho hb hb' hi
    go_enter Try.func67, Try.ntmps67
    go_wp2_with (fail)
    (with_reducible refine (HW.out _).mono ?_)
    rintro e w1 ⟨rfl, rfl⟩
    go_wp2
    go_ret
    unfold SetR
    rw [HE.out, HF.out]
    exact ⟨rfl, H.out, OnlyX.refl _ _⟩
end
end Go.Proofs.Ytjdknddnanopaaa

/-
  Params: blank.
-/
namespace Go.Proofs.Ytjdknddnanopaaa
open Go.RowKit
set_option linter.unusedVariables false

theorem no255 (x : Int) (w : World) : Calls Try.prog 142 #[.int .u8 x] w fun e w' => e = .returned (.bool (x != 255)) ∧ w = w' := by
  go_enter Try.func142, Try.ntmps142
  go_wp2
  go_ret
  exact ⟨rfl, rfl⟩

theorem idx_any (A : Option Addr) (n c : Nat) (b : List Int) (w : World) (hA : Rd w w.heap.size A (kcells .u8 b)) (hn : b.length = n) (hn2 : n ≤ 1000000) :
    Calls Try.prog 143 #[.slice A n c, .func (.func 142) #[] #[]] w fun e w' => (∃ r : Int, e = .returned (.int .i64 r) ∧ decide (0 ≤ r) = !blankF b) ∧ w = w' := by
  have HA := Lib.hid hA
  have HN := Lib.hid hn
  clear hA hn
  go_enter Try.func143, Try.ntmps143
  go_wp2
  go_loopw [8] (fun i wr => ∃ k : Nat, k ≤ n ∧ i = .int .i64 k ∧ blankF (b.take k) = true ∧ w = wr) (fun i _ => n - (intOf i).toNat)
  case atStart => exact ⟨0, Nat.zero_le _, rfl, rfl, rfl⟩
  case round =>
    obtain ⟨k, hk, rfl, ht, rfl⟩ := hrel
    have HT := Lib.hid ht
    clear ht
    by_cases hlt : k < n
    · obtain ⟨x, hx⟩ := getElem?_of_lt (l := b) (k := k) (by rw [HN.out]; exact hlt)
      obtain ⟨ba, off, rfl, _, e0⟩ := HA.out.kint hx
      have HX := Lib.hid hx
      have H1 := Lib.hid (fun w => no255 x w)
      clear hx
      by_cases he : x = 255
      · have HS := Lib.hid (blankF_step HX.out HT.out he)
        rw [show (x != 255) = false by simpa using he] at H1
        clear he
        go_wp2_with (fail)
        (with_reducible refine (H1.out _).mono ?_)
        rintro e w1 ⟨rfl, rfl⟩
        go_wp2
        go_roundw
        case rel => exact ⟨k + 1, by omega, by go_num, HS.out, by first | rfl | trivial⟩
        case measure => simp [intOf]; omega
      · have HS := Lib.hid (blankF_no HX.out he)
        rw [show (x != 255) = true by simpa using he] at H1
        clear he
        go_wp2_with (fail)
        (with_reducible refine (H1.out _).mono ?_)
        rintro e w1 ⟨rfl, rfl⟩
        go_wp2
        go_ret
        refine ⟨⟨k, rfl, ?_⟩, rfl⟩
        rw [HS.out, decide_eq_true (by omega)]
        rfl
    · have hkn : k = n := by omega
      subst hkn
      have HS : Hid (blankF b = true) := by
        have := HT.out
        rwa [List.take_of_length_le (by rw [HN.out]; exact Nat.le_refl _)] at this
      go_wp2
      go_ret
      refine ⟨⟨-1, rfl, ?_⟩, rfl⟩
      rw [HS.out]
      rfl

theorem contains_any (A : Option Addr) (n c : Nat) (b : List Int) (w : World) (hA : Rd w w.heap.size A (kcells .u8 b)) (hn : b.length = n) (hn2 : n ≤ 1000000) :
    Calls Try.prog 141 #[.slice A n c, .func (.func 142) #[] #[]] w fun e w' => e = .returned (.bool (!blankF b)) ∧ w = w' := by
  have HI := Lib.hid (idx_any A n c b w hA hn hn2)
  clear hA hn
  go_enter Try.func141, Try.ntmps141
  go_wp2_with (fail)
  (with_reducible refine HI.out.mono ?_)
  rintro e w1 ⟨⟨r, rfl, hr⟩, rfl⟩
  have HR := Lib.hid hr
  clear hr
  go_wp2
  go_ret
  refine ⟨?_, rfl⟩
  rw [← HR.out]
  rfl

theorem blankN_succ (f : Fl) (a k : Nat) : blankN f a (k + 1) = (blankN f a k && blankF (pageF f (a + k))) := by
  unfold blankN
  rw [List.range_succ, List.all_append]
  simp
theorem blankN_more {f : Fl} {a k n : Nat} (hk : k < n) (h : blankF (pageF f (a + k)) = false) : blankN f a n = false := by
  unfold blankN
  rw [List.all_eq_false]
  exact ⟨k, List.mem_range.2 hk, by rw [h]; decide⟩
theorem readF_in {f : Fl} {a : Nat} (hd : f.down = false) (ha : a < f.wear.length * f.pg) : readF f (a : Int) = (pageF f a, 0) := by
  have : atF f (a : Int) = 0 := by
    unfold atF
    rw [hd, if_neg (by decide), if_neg (by omega)]
  unfold readF
  rw [if_neg (by omega), Int.toNat_natCast]
theorem pageF_len {f : Fl} (h : f.ok) {a : Nat} (ha : a < f.wear.length * f.pg) : (pageF f a).length = 64 := by
  unfold pageF
  rw [List.length_take, List.length_drop, h.len]
  omega
theorem pageF_bytes {f : Fl} (h : f.ok) (a : Nat) : Bytes (pageF f a) := bytes_take (bytes_drop h.byt _) _
theorem pages_1024 {f : Fl} (h : f.ok) : f.wear.length * f.pg ≤ 1024 := Nat.mul_le_mul h.b2 h.p2

section
variable {w0 w : World} {L : Lc} {S : Sc} {f : Fl} {s : St}

set_option maxHeartbeats 2000000 in
theorem blank_any (h : StAt w0 w L S f s) (hd : f.down = false) (ai ni : Int) (a n : Nat) (ha : ai = a) (hn : ni = n) (han : a + n ≤ f.wear.length * f.pg) :
    Calls Try.prog 138 #[.pointer (some ⟨S.D, 0, none⟩), .int .i64 ai, .int .i64 ni] w fun e w' => e = .returned (.bool (blankN f a n)) ∧ Below w.heap.size w w' := by
  subst ha hn
  have g1 := ne_nil
  have hm := pages_1024 h.fl.ok
  have H := Lib.hid h
  have HAN := Lib.hid han
  have HD := Lib.hid hd
  have han2 : a + n ≤ 1024 := by omega
  clear h han hd hm
  go_enter Try.func138, Try.ntmps138
  go_wp2
  go_loopw [11] (fun i wr => ∃ k : Nat, k ≤ n ∧ i = .int .i64 k ∧ blankN f a k = true ∧ Below w.heap.size w wr) (fun i _ => n - (intOf i).toNat)
  case atStart => exact ⟨0, Nat.zero_le _, rfl, rfl, Below.refl _ _⟩
  case round =>
    obtain ⟨k, hk, rfl, ht, hb⟩ := hrel
    have HT := Lib.hid ht
    have HB := Lib.hid hb
    clear ht hb
    by_cases hlt : k < n
    · have HS := Lib.hid (H.out.later HB.out)
      have c0 := HS.out.row 0 _ rfl
      have hin : a + k < f.wear.length * f.pg := by have := HAN.out; omega
      have HR := Lib.hid (read_any HS.out.fl ((a : Int) + (k : Int)))
      rw [show (a : Int) + (k : Int) = ((a + k : Nat) : Int) by push_cast; rfl, readF_in HD.out hin] at HR
      have hl := pageF_len H.out.fl.ok hin
      have HLN := Lib.hid hl
      obtain ⟨p, hp⟩ : ∃ p, pageF f (a + k) = p := ⟨_, rfl⟩
      have HP := Lib.hid hp
      rw [hp] at HR HLN
      simp only [HLN.out] at HR
      rw [show ((a + k : Nat) : Int) = (a : Int) + (k : Int) by push_cast; rfl] at HR
      clear hin hl hp
      go_wp2_with (fail)
      (with_reducible refine HR.out.mono ?_)
      rintro e w1 ⟨v', rfl, ho, hb⟩
      obtain ⟨A, c, rfl, _, _, hr⟩ := own_read ho
      have HC := Lib.hid (contains_any A 64 c p w1 hr HLN.out (by omega))
      have HB1 : Hid (Below w.heap.size w w1) := HB.out.trans (hb.mono HB.out.size)
      clear ho hr hb c0
      by_cases hbl : blankF p = true
      · have HN : Hid (blankN f a (k + 1) = true) := by rw [Hid, blankN_succ, HT.out, HP.out, hbl]; rfl
        rw [hbl] at HC
        clear hbl
        rw [errV_zero]
        go_wp2_with (fail)
        (with_reducible refine HC.out.mono ?_)
        rintro e w2 ⟨rfl, rfl⟩
        go_wp2
        go_roundw
        case rel => exact ⟨k + 1, by omega, by go_num, HN.out, HB1.out⟩
        case measure => simp [intOf]; omega
      · have hbl' : blankF p = false := by simpa using hbl
        have HN : Hid (blankN f a n = false) := blankN_more hlt (by rw [HP.out]; exact hbl')
        rw [hbl'] at HC
        clear hbl hbl'
        rw [errV_zero]
        go_wp2_with (fail)
        (with_reducible refine HC.out.mono ?_)
        rintro e w2 ⟨rfl, rfl⟩
        go_wp2
        go_ret
        rw [HN.out]
        exact ⟨rfl, HB1.out⟩
    · have hkn : k = n := by omega
      subst hkn
      go_wp2
      go_ret
      rw [HT.out]
      exact ⟨rfl, HB.out⟩
end
end Go.Proofs.Ytjdknddnanopaaa
