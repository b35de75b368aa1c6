/-
  Part 4 of the proof.
-/
import Derived.Lib.Tables
import Derived.Lib.BitFns
import Derived.Laws.Bits64b
import Derived.Test.YtjdknddnanopaaaGreatQ3
namespace Go.Proofs.YtjdknddnanopaaaGreat
open Go.RowKit Tryz
set_option maxRecDepth 100000
set_option maxHeartbeats 16000000
set_option linter.all false
variable {w w' w0 : World} {X Y : Nat → Prop} {A : Option Addr} {B D a base c e i k n q size : Nat} {ps : List (List Int)} {f f' : Fl} {vs xs : List Value} {v : Value} {b p p0 bc : List Int} {s : St} {seq x : Int} {L : Lc}
theorem gn (n lo hi : Int) (w : World) : Calls prog 105 #[.int .i64 n, .int .i64 lo, .int .i64 hi] w fun e w' => e = .returned (.bool (decide (lo ≤ n ∧ n ≤ hi))) ∧ w = w' := by
 by_cases h1 : lo ≤ n
 ·have d1 : decide (lo ≤ n) = true := by simpa using h1
  by_cases h2 : n ≤ hi
  ·have d2 : decide (n ≤ hi) = true := by simpa using h2
   rw [decide_eq_true (show lo ≤ n ∧ n ≤ hi from ⟨h1, h2⟩)]
   go_enter func105, ntmps105
   go_wp2
   go_ret
   exact ⟨rfl, rfl⟩
  have d2 : decide (n ≤ hi) = false := by simpa using h2
  rw [decide_eq_false (show ¬ (lo ≤ n ∧ n ≤ hi) from fun h => h2 h.2)]
  go_enter func105, ntmps105
  go_wp2
  go_ret
  exact ⟨rfl, rfl⟩
 have d1 : decide (lo ≤ n) = false := by simpa using h1
 rw [decide_eq_false (show ¬ (lo ≤ n ∧ n ≤ hi) from fun h => h1 h.1)]
 go_enter func105, ntmps105
 go_wp2
 go_ret
 exact ⟨rfl, rfl⟩
theorem mO (n : Nat) (hn : n < 1000000000000) (w : World) : Calls prog 114 #[.int .i64 (n : Int)] w fun e w' => e = .returned (.int .i64 (cO n : Nat)) ∧ w = w' := by
 have e4 : (((n : Int)) + 6 - 1) / 6 = ((cO n : Nat) : Int) := by unfold cO; omega
 go_enter func114, ntmps114
 go_wp2
 go_ret
 refine ⟨?_, rfl⟩
 show Ending.returned (Value.int .i64 (((n : Int) + 6 - 1) / 6)) = _
 rw [e4]
theorem NV : ∀ n : Fin 256, Lib.pop8 (255 - (n.val : Int)) = uv n.val := by decide +kernel
theorem KF (h : 0 ≤ x ∧ x < 256) : Lib.pop8 (255 - x) = uv x := by
 have := NV ⟨x.toNat, oM⟩
 simp only [Int.toNat_of_nonneg h.1] at this
 exact this
theorem RO : ∀ n : Fin 256, bits .xor .u8 IntKind.u8.max (n.val : Int) = 255 - (n.val : Int) := by decide +kernel
theorem N6 (h : 0 ≤ x ∧ x < 256) : bits .xor .u8 IntKind.u8.max x = 255 - x := by
 have := RO ⟨x.toNat, oM⟩
 simp only [Int.toNat_of_nonneg h.1] at this
 exact this
theorem KU (x : Int) (h : 0 ≤ x ∧ x < 256) (w : World) : Calls prog 128 #[.int .u8 (bits .xor .u8 IntKind.u8.max x)] w fun e w' => e = .returned (.int .i64 (uv x)) ∧ w = w' := by
 rw [N6 h]
 have e1 := KF h
 have e2 := se (x := x)
 have h0 : 0 ≤ 255 - x := oM
 have h1 : 255 - x ≤ 255 := oM
 have e3 : (Lib.pop8 (255 - x) + 9223372036854775808) % 18446744073709551616 - 9223372036854775808 = uv x := by rw [e1]; omega
 generalize uv x = Z at *
 generalize 255 - x = y at *
 go_enter func128, ntmps128
 go_wp2
 go_ret
 refine ⟨?_, rfl⟩
 rw [← e3]
 rfl
theorem ye (A : Option Addr) (n c : Nat) (b : List Int) (w : World) (hA : Rd w w.heap.size A (ag .u8 b)) (hn : b.length = n) (hb : Bytes b) (qS : n ≤ 1000000) :
 Calls prog 124 #[.slice A n c] w fun e w' => e = .returned (.int .i64 (cr b)) ∧ w = w' := by
 have HA := iD hA
 have HN := iD hn
 have HB := iD hb
 clear hA hn hb
 go_enter func124, ntmps124
 go_wp2
 go_loopw [3, 8] (fun z i wr => ∃ k : Nat, k ≤ n ∧ i = .int .i64 k ∧ z = .int .i64 (cr (b.take k)) ∧ w = wr) (fun _ i _ => n - (intOf i).toNat)
 case atStart => exact ⟨0, oM, rfl, by simp [cr], rfl⟩
 case round =>
  obtain ⟨k, hk, rfl, rfl, rfl⟩ := hrel
  by_cases aW : k < n
  ·obtain ⟨x, hx⟩ := getElem?_of_lt (l := b) (k := k) (by rw [HN]; exact aW)
   have qy := HB x (List.mem_of_getElem? hx)
   obtain ⟨ba, off, rfl, _, c0⟩ := HA.mo hx
   have HT : Hid (cr (b.take (k + 1)) = cr (b.take k) + uv x) := by rw [Hid, bA b k x hx, pI]
   have hz := gm (b.take k)
   rw [List.length_take, HN] at hz
   have hzc := se (x := x)
   have HO := iD (fun w => KU x qy w)
   generalize cr (b.take k) = Z at *
   clear hx qy
   go_wp2_with (fail)
   refine (HO w).mono ?_
   rintro e w1 ⟨rfl, rfl⟩
   go_wp2
   go_roundw
   case rel => exact ⟨k + 1, oM, by go_num, by rw [HT], by first | rfl | trivial⟩
   case measure => simp [intOf]; omega
  have kg : k = n := oM
  subst kg
  have e : b.take k = b := by rw [← HN]; exact List.take_length
  rw [e]
  go_wp2
  go_ret
  exact ⟨rfl, rfl⟩
theorem RE {n : Int} (hn : 0 ≤ n ∧ n < 18446744073709551616) (hx : 0 ≤ x ∧ x < 256) : bits .or .u64 (n * 256 % 18446744073709551616) x = (n * 256 + x) % 18446744073709551616 := by
 obtain ⟨N, rfl⟩ := Int.eq_ofNat_of_zero_le hn.1
 obtain ⟨X, rfl⟩ := Int.eq_ofNat_of_zero_le hx.1
 have e : (N : Int) * 256 % 18446744073709551616 = ((N * 256 % 18446744073709551616 : Nat) : Int) := oM
 rw [e, u64_or_nat _ _ oM oM, nat_join 8 _ _ oM oM]
 omega
theorem vL (A : Option Addr) (n c : Nat) (b : List Int) (w : World) (hA : Rd w w.heap.size A (ag .u8 b)) (hn : b.length = n) (hb : Bytes b) (qS : n ≤ 1000000) :
 Calls prog 116 #[.slice A n c] w fun e w' => e = .returned (.int .u64 (eN b)) ∧ w = w' := by
 have HA := iD hA
 have HN := iD hn
 have HB := iD hb
 clear hA hn hb
 go_enter func116, ntmps116
 go_wp2
 go_loopw [3, 8] (fun z i wr => ∃ k : Nat, k ≤ n ∧ i = .int .i64 k ∧ z = .int .u64 (eN (b.take k)) ∧ w = wr) (fun _ i _ => n - (intOf i).toNat)
 case atStart => exact ⟨0, oM, rfl, by simp [eN], rfl⟩
 case round =>
  obtain ⟨k, hk, rfl, rfl, rfl⟩ := hrel
  by_cases aW : k < n
  ·obtain ⟨x, hx⟩ := getElem?_of_lt (l := b) (k := k) (by rw [HN]; exact aW)
   have qy := HB x (List.mem_of_getElem? hx)
   obtain ⟨ba, off, rfl, _, c0⟩ := HA.mo hx
   have HT : Hid (eN (b.take (k + 1)) = (eN (b.take k) * 256 + x) % 18446744073709551616) := by rw [Hid, bA b k x hx, qL]
   have hz := yH (b.take k)
   have HO := iD (RE hz qy)
   generalize eN (b.take k) = Z at *
   have q1 := qy.1
   have q2 := qy.2
   clear hx qy
   go_wp2
   go_roundw
   case rel => exact ⟨k + 1, oM, by go_num, by rw [HT, ← HO]; rfl, by first | rfl | trivial⟩
   case measure => simp [intOf]; omega
  have kg : k = n := oM
  subst kg
  have e : b.take k = b := by rw [← HN]; exact List.take_length
  rw [e]
  go_wp2
  go_ret
  exact ⟨rfl, rfl⟩
theorem BK (n : Int) (m j : Nat) (hj : j < m) : (eM n m)[j]? = some (n / 256 ^ (m - 1 - j) % 256) := by
 unfold eM
 rw [List.getElem?_map, List.getElem?_range hj]
 rfl
theorem F3 (d : Nat) : (2 : Int) ^ (8 * d) = 256 ^ d := by rw [Int.pow_mul]; rfl
theorem zz (base g N cap lo m c : Nat) (l : List Int) (n : Int) (w : World) (h : w.ownsRow base 5 1 (.slice (some ⟨g, 0, none⟩) N cap) N (ag .u8 l)) (hl : l.length = N) (VX : lo + m ≤ N) (hm : m ≤ 8) (hn : 0 ≤ n ∧ n < 18446744073709551616) :
 Calls prog 125 #[.slice (some ⟨g, lo, none⟩) m c, .int .u64 n] w fun e w' => e = .returned (.tuple #[]) ∧ w'.ownsRow base 5 1 (.slice (some ⟨g, 0, none⟩) N cap) N (ag .u8 (lay l lo (eM n m))) ∧ w.grownBy w' (some g) := by
 have H := iD h
 have HL := iD hl
 have UO := iD VX
 obtain ⟨yQ, qS⟩ := hn
 clear h hl VX
 go_enter func125, ntmps125
 go_wp2
 go_loopw [7] (fun i wr => ∃ j : Nat, j ≤ m ∧ i = .int .i64 j ∧ wr.ownsRow base 5 1 (.slice (some ⟨g, 0, none⟩) N cap) N (ag .u8 (lay l lo ((eM n m).take j))) ∧ w.grownBy wr (some g)) (fun i _ => m - (intOf i).toNat)
 case atStart => exact ⟨0, oM, rfl, by rw [List.take_zero, lD]; exact H, World.grownBy.refl _ _⟩
 case round =>
  obtain ⟨j, hj, rfl, hO, hG⟩ := hrel
  have HO := iD hO
  have HG := iD hG
  clear hO hG
  by_cases aW : j < m
  ·have gZ : (lay l lo ((eM n m).take j)).length = N := by rw [cL _ _ _ (by rw [List.length_take, cK, HL.out]; have := UO.out; omega), HL.out]
   obtain ⟨z, hz⟩ := getElem?_of_lt (l := lay l lo ((eM n m).take j)) (k := lo + j) (by rw [gZ]; have := UO.out; omega)
   have d0 := qJ gZ HO hz
   have d1 : wr.frozen? ⟨g, lo + j, none⟩ = false := HO.frozenAt _
   obtain ⟨y, hy⟩ := ex (n / 256 ^ (m - 1 - j) % 256)
   have dV := jA (img := l) (b := eM n m) (a := lo) (i := j) (x := y) (by rw [cK, HL]; exact UO) (by rw [BK n m j aW, hy])
   have n1 := ir HO (lo + j) y
   rw [dV] at n1
   have xZ := iD n1
   have uJ : Hid (w.grownBy (wr.setCell ⟨g, lo + j, none⟩ (.int .u8 y)) (some g)) := HG.trans (HO.stored (lo + j) (.int .u8 y)).2
   have HE : Hid (∀ d : Nat, d = 8 * (m - 1 - j) → n / 2 ^ d % 256 = y) := by
    intro d hd
    subst hd
    rw [F3]
    exact hy
   clear hz n1 dV gZ hy
   go_wp2
   rw [HE _ oM]
   go_roundw
   case rel => exact ⟨j + 1, oM, by go_num, xZ, uJ⟩
   case measure => simp [intOf]; omega
  have Ow : j = m := oM
  subst Ow
  have eO := HO.out
  rw [List.take_of_length_le (by rw [cK]; exact Nat.le_refl _)] at eO
  have ox := iD eO
  clear eO
  go_wp2
  go_end0
  exact ⟨rfl, ox, HG⟩
theorem zM : (prog.info? 32).map (fun i => (i.zero, i.size, i.bytes)) = some (some (.slice none 0 0), 1, 24) := by kernel_rfl
def lU (X : Nat → Prop) (w : World) (A : Option Addr) (ps : List (List Int)) : Prop :=
 ∃ vs : List Value, cn X w A vs ∧ vs.length = ps.length ∧ ∀ (i : Nat) p, ps[i]? = some p → ∃ Q m c, vs[i]? = some (.slice Q m c) ∧ p.length = m ∧ m ≤ c ∧ c ≤ maxLen ∧ cn X w Q (ag .u8 p)
structure xk (w wr : World) (v : Value) (vs : List Value) (seq : Int) (bc : List Int) (k : Nat) : Prop where
 own : wr.ownsRow w.heap.size 32 1 v k vs
 pg : ∀ i, i < k → ∃ g, vs[i]? = some (.slice (some ⟨g, 0, none⟩) 64 64) ∧ wr.ownsRow w.heap.size 5 1 (.slice (some ⟨g, 0, none⟩) 64 64) 64 (ag .u8 (eL seq bc i))
 below : bW w wr
theorem xk.ab {wr : World} (h : xk w wr v vs seq bc k) (hb : bW wr w') : xk w w' v vs seq bc k :=
 ⟨aD h.own hb, fun i hi => by
  obtain ⟨g, h1, h2⟩ := h.pg i hi
  exact ⟨g, h1, aD h2 hb⟩, h.below.trans (hb.mono h.below.size)⟩
theorem ou {g : Nat} (h : w.grownBy w' (some g)) (hg : B ≤ g) (hB : B ≤ w.heap.size) : Below B w w' :=
 ⟨h.os, h.tape, h.output, h.size, fun k hk => h.block k (Nat.lt_of_lt_of_le hk hB) (fun e => by cases e; omega)⟩
theorem xk.push {W W' : World} {v' : Value} {g : Nat} {o : Obj} (h : xk w W v vs seq bc k) 
 (hp : W.ownsRow w.heap.size 5 1 (.slice (some ⟨g, 0, none⟩) 64 64) 64 (ag .u8 (eL seq bc k)))
 (ho : W'.ownsRow w.heap.size 32 1 v' (k + 1) (vs ++ [.slice (some ⟨g, 0, none⟩) 64 64])) (hg : (W.alloc o).grownBy W' v.ownBlock) : xk w W' v' (vs ++ [.slice (some ⟨g, 0, none⟩) 64 64]) seq bc (k + 1) := by
 have hb : bW W (W.alloc o) := bV.alloc cV o
 have h1 := h.ab hb
 have sO := aD hp hb
 have hl : vs.length = k := by have := h.own.1; simpa using this
 refine ⟨ho, fun i hi => ?_, h1.below.grown hg h1.below.size (fun k hk => (h1.own.lt k hk).1)⟩
 by_cases e : i = k
 ·subst e
  exact ⟨g, by rw [List.getElem?_append_right oM, hl]; simp, bN sO hg (fun g' dr e' => aL h1.own sO (by decide) g' e' dr)⟩
 obtain ⟨g', a1, a2⟩ := h1.pg i oM
 exact ⟨g', by rw [List.getElem?_append_left oM]; exact a1, bN a2 hg (fun g2 dr e' => aL h1.own a2 (by decide) g2 e' dr)⟩
theorem CJ (seq : Int) (bc : List Int) (i : Nat) (hi : i < cO bc.length) : (dS seq bc)[i]? = some (eL seq bc i) := by
 unfold dS
 rw [List.getElem?_map, List.getElem?_range hi]
 rfl
theorem fG (seq : Int) (bc : List Int) : (dS seq bc).length = cO bc.length := by simp [dS]
theorem lA {m : Nat} (hn : xs.length = n) (h : w.ownsRow base e 1 (.slice A m c) n xs) (hX : ∀ b, X b → b < base) : cn X w A xs := fun hx => by
 obtain ⟨A', c', hv, _, _, hg⟩ := a9 h
 obtain ⟨A2, c2, jB, _, _, hr⟩ := bL h
 injection hv with hv _ _
 injection jB with jB _ _
 subst hv
 subst jB
 have Ck : 0 < n := by
  rw [← hn]
  exact List.length_pos_iff.2 hx
 obtain ⟨g, rfl, Uj, aW⟩ := hg Ck
 obtain ⟨b, off, he, hb, hc⟩ := hr hx
 have he' : b = g ∧ off = 0 := by
  injection he with he
  injection he with h1 h2
  exact ⟨h1.symm, h2.symm⟩
 obtain ⟨rfl, rfl⟩ := he'
 exact ⟨b, 0, rfl, hb, fun hx' => by have := hX _ hx'; omega, hc⟩
theorem xk.rd {wr : World} (h : xk w wr (.slice A n c) vs seq bc n) (hn : n = cO bc.length) (X : Nat → Prop) (hX : ∀ b, X b → b < w.heap.size) : lU X wr A (dS seq bc) := by
 have hl : vs.length = n := by have := h.own.1; simpa using this
 refine ⟨vs, lA hl h.own hX, by rw [fG, hl, hn], fun i p hp => ?_⟩
 have hi : i < cO bc.length := by rw [← fG seq bc]; exact (List.getElem?_eq_some_iff.1 hp).1
 rw [CJ seq bc i hi] at hp
 injection hp with hp
 subst hp
 obtain ⟨g, a1, a2⟩ := h.pg i oM
 exact ⟨_, 64, 64, a1, dO _ _ _, Nat.le_refl _, by unfold maxLen; omega, lA (by rw [aE, dO]) a2 hX⟩
theorem KM {g cap : Nat} {ki : IntKind} {a : List Int} (h : w.ownsRow base e 1 (.slice (some ⟨g, 0, none⟩) n cap) n (ag ki (a ++ b))) : Rd w w.heap.size (some ⟨g, 0, none⟩) (ag ki a) := by
 obtain ⟨A, c, e1, _, _, hr⟩ := bL h
 cases e1
 exact hr.initial ⟨ag ki b, by rw [dm]⟩
theorem mR {b b' : Nat} (h : w.ownsRow b e size v n xs) (hb : b' ≤ b) : w.ownsRow b' e size v n xs :=
 ⟨h.1, by
  rcases h.2 with h' | ⟨g, cap, cur, h1, h2, h3⟩
  ·exact .inl h'
  exact .inr ⟨g, cap, cur, h1, Nat.le_trans hb h2, h3⟩⟩
theorem xk.fP {wr : World} (h : xk w wr v vs seq bc k) (o : Obj) : (wr.alloc o).ownsRow w.heap.size 32 1 v k vs :=
 aD h.own (bV.alloc cV o)
theorem L4 (seq : Int) (A : Option Addr) (n c : Nat) (w : World) (hn : n < 1000000000000) (h : fX seq n ≠ 0) :
 Calls prog 117 #[.int .i64 seq, .slice A n c] w fun e w' => e = .returned (.tuple #[.slice none 0 0, .iface 108 (.int .i64 3)]) ∧ w = w' := by
 by_cases h1 : 1 ≤ seq ∧ seq ≤ 1099511627776
 ·have h2 : ¬ (1 ≤ (n : Int) ∧ (n : Int) ≤ 48) := by
   unfold fX at h
   intro h3
   rw [iN oM] at h
   exact h rfl
  have HA := iD (fun w => gn seq 1 1099511627776 w)
  have HB := iD (fun w => gn n 1 48 w)
  rw [decide_eq_true h1] at HA
  rw [decide_eq_false h2] at HB
  clear h h1 h2
  go_enter func117, ntmps117
  go_wp2_with (fail)
  refine (HA w).mono ?_
  rintro e w1 ⟨rfl, rfl⟩
  go_wp2_with (fail)
  refine (HB w).mono ?_
  rintro e w1 ⟨rfl, rfl⟩
  go_wp2
  go_ret2
  exact ⟨rfl, rfl⟩
 have HA := iD (fun w => gn seq 1 1099511627776 w)
 rw [decide_eq_false h1] at HA
 clear h h1
 go_enter func117, ntmps117
 go_wp2_with (fail)
 refine (HA w).mono ?_
 rintro e w1 ⟨rfl, rfl⟩
 go_wp2
 go_ret2
 exact ⟨rfl, rfl⟩
theorem GC (X : Nat → Prop) (seq : Int) (A : Option Addr) (n c : Nat) (bc : List Int) (w : World) (hX : ∀ b, X b → b < w.heap.size) (hA : Rd w w.heap.size A (aw bc)) (hn : bc.length = n) (qa : n ≤ c) (fS : c ≤ maxLen) (hv : ∀ x ∈ bc, -9223372036854775808 ≤ x ∧ x < 9223372036854775808) (h : fX seq n = 0) :
 Calls prog 117 #[.int .i64 seq, .slice A n c] w fun e w' => ∃ A' c', e = .returned (.tuple #[.slice A' (cO n) c', .nilIface]) ∧ cO n ≤ c' ∧ c' ≤ maxLen ∧ lU X w' A' (dS seq bc) ∧ bW w w' := by
 obtain ⟨s1, s2, n1, n2⟩ : 1 ≤ seq ∧ seq ≤ 1099511627776 ∧ 1 ≤ n ∧ n ≤ 48 := by
  unfold fX at h
  split at h
  ·cases h
  omega
 obtain ⟨ba, off, rfl⟩ : ∃ ba off, A = some ⟨ba, off, none⟩ := by
  obtain ⟨x, hx⟩ := getElem?_of_lt (l := bc) (k := 0) oM
  obtain ⟨b, o, e, _⟩ := hA.int hx
  exact ⟨b, o, e⟩
 have HX := iD hX
 have HA := iD hA
 have HN := iD hn
 have HV := iD hv
 have rH := iD (fun w => gn seq 1 1099511627776 w)
 have oS := iD (fun w => gn n 1 48 w)
 rw [decide_eq_true (show 1 ≤ seq ∧ seq ≤ 1099511627776 by omega)] at rH
 rw [decide_eq_true (show 1 ≤ (n : Int) ∧ (n : Int) ≤ 48 by omega)] at oS
 have jk := iD (fun w => mO n oM w)
 have Zr : Hid (6 * cO n < n + 6 ∧ n ≤ 6 * cO n) := by unfold cO; exact ⟨oM, oM⟩
 have zU : cO n ≤ 8 := by have := Zr.out; omega
 obtain ⟨i23, hi, uz, P7, Ce⟩ := info_parts zM
 have Si : ∀ wx : World, (Instr.makeSlice 32 (.int .i64 64) (.int .i64 64)).run prog wx = .ok (.slice (some ⟨wx.heap.size, 0, none⟩) 64 64) (wx.alloc (.cells (madeCells #[.int .u8 0] 64) 5)) := fun wx =>
  run_make_row' 32 5 (.int .u8 0) 1 underlying32 kD rfl .i64 .i64 64 oM oM wx
 have FF : Hid ((madeCells #[.int .u8 0] 64).toList = ag .u8 (List.replicate 64 0)) := vM .u8 64
 generalize madeCells #[.int .u8 0] 64 = C8 at *
 obtain ⟨P, hP⟩ := ex (cO n)
 have PB := iD hP
 rw [hP] at jk Zr zU ⊢
 have hu : seq % 18446744073709551616 = seq := oM
 have nu : (n : Int) % 256 = n := oM
 unfold maxLen at fS
 clear hX hA hn hv h hP
 go_enter func117, ntmps117
 go_wp2_with (fail)
 refine (rH w).mono ?_
 rintro e w1 ⟨rfl, rfl⟩
 go_wp2_with (fail)
 refine (oS w).mono ?_
 rintro e w1 ⟨rfl, rfl⟩
 go_wp2_with (fail)
 refine (jk w).mono ?_
 rintro e w1 ⟨rfl, rfl⟩
 go_wp2
 go_loopw [6, 24] (fun v i wr => ∃ k : Nat, k ≤ P ∧ i = .int .i64 k ∧ ∃ vs, xk w wr v vs seq bc k) (fun _ i _ => P - (intOf i).toNat)
 case atStart => exact ⟨0, oM, rfl, [], ⟨World.ownsRow_nil _ _ _ _, fun i hi => absurd hi oM, Below.refl _ _⟩⟩
 case round =>
  obtain ⟨k, hk, rfl, vs, hI⟩ := hrel
  have HI := iD hI
  clear hI
  obtain ⟨wa, hwa⟩ : ∃ wa, wa = wr := ⟨_, rfl⟩
  subst hwa
  by_cases aW : k < P
  ·obtain ⟨W, hW⟩ := ex (wa.alloc (.cells C8 5))
   have gj : Hid (bW wa W) := by rw [← hW]; exact bV.alloc cV _
   have uk : Hid (W.ownsRow wa.heap.size 5 1 (.slice (some ⟨wa.heap.size, 0, none⟩) 64 64) 64 (ag .u8 (List.replicate 64 0))) := by
    rw [← hW]
    exact fP FF (by rw [aE, List.length_replicate]) cV (by unfold maxLen; omega)
   have k8 : (k : Int) % 256 = k := oM
   have d0 : W.cell? ⟨wa.heap.size, 0, none⟩ = some (.int .u8 0) := qJ (List.length_replicate) uk (by rw [List.getElem?_replicate, iP oM])
   have d1 : W.cell? ⟨wa.heap.size, 1, none⟩ = some (.int .u8 0) := qJ (List.length_replicate) uk (by rw [List.getElem?_replicate, iP oM])
   have f0 : W.frozen? ⟨wa.heap.size, 0, none⟩ = false := uk.frozenAt _
   have f1 : W.frozen? ⟨wa.heap.size, 1, none⟩ = false := uk.frozenAt _
   obtain ⟨W2, lY⟩ := ex ((W.setCell ⟨wa.heap.size, 0, none⟩ (.int .u8 k)).setCell ⟨wa.heap.size, 1, none⟩ (.int .u8 n))
   have XX : Hid (W2.ownsRow wa.heap.size 5 1 (.slice (some ⟨wa.heap.size, 0, none⟩) 64 64) 64 (ag .u8 ([(k : Int), (n : Int)] ++ List.replicate 62 0))) := by
    rw [← lY]
    have a1 := ir uk 0 (k : Int)
    have a2 := ir a1 1 (n : Int)
    exact a2
   have TF : Hid (bW wa W2) := by
    rw [← lY]
    exact (gj.setCell (p := ⟨wa.heap.size, 0, none⟩) cV _).setCell (p := ⟨wa.heap.size, 1, none⟩) cV _
   go_wp2_with (fail)
   clear hW lY d0 d1 f0 f1
   refine (zz wa.heap.size wa.heap.size 64 64 2 6 62 _ seq W2 XX rfl oM oM oM).mono ?_
   rintro e w3 ⟨rfl, Nh, hg3⟩
   have rZ : Hid (w3.ownsRow wa.heap.size 5 1 (.slice (some ⟨wa.heap.size, 0, none⟩) 64 64) 64 (ag .u8 (fI seq bc k 0 ++ [0, 0]))) := by
    rw [Hid, ← Lw, show l4 seq = seq from (wX seq).trans hu, HN]
    exact Nh
   have jd : Hid (bW wa w3) := TF.trans (ou hg3 cV TF.size)
   clear Nh hg3 XX TF uk gj
   obtain ⟨H, hH⟩ := ex (min n (6 * k + 6))
   obtain ⟨lo, VX⟩ := ex (6 * k)
   have q1 : (k : Int) * 6 = (lo : Int) := oM
   have q2 : ((k : Int) + 1) * 6 = (lo : Int) + 6 := oM
   have q3 : min (n : Int) ((lo : Int) + 6) = (H : Int) := oM
   have q4 : lo ≤ H ∧ H ≤ n ∧ H ≤ lo + 6 ∧ (H < lo + 6 → H = n) := by have := Zr.out; omega
   obtain ⟨q5, q6, q7, q8⟩ := q4
   have UO := iD VX
   have q9 : ¬ (c = lo) := by have := Zr.out; omega
   clear hH VX
   obtain ⟨m, hm⟩ := ex (H - lo)
   have hm' : H = lo + m := oM
   subst hm'
   clear hm
   rw [Int.natCast_add] at q3
   have HQ8 := iD q8
   clear q8
   go_wp2
   rw [Nat.add_sub_cancel_left]
   go_loopw [53] (fun i wr => ∃ j : Nat, j ≤ m ∧ i = .int .i64 j ∧ wr.ownsRow wa.heap.size 5 1 (.slice (some ⟨wa.heap.size, 0, none⟩) 64 64) 64 (ag .u8 (fI seq bc k j ++ [0, 0])) ∧ bW wa wr) (fun i _ => m - (intOf i).toNat)
   case atStart => exact ⟨0, oM, rfl, rZ, jd⟩
   case round =>
    obtain ⟨j, hj, rfl, hO, hB⟩ := hrel
    have HO := iD hO
    have HB := iD hB
    clear hO hB
    by_cases hltj : j < m
    ·obtain ⟨x, hx⟩ := getElem?_of_lt (l := bc) (k := lo + j) (by rw [HN]; omega)
     obtain ⟨Ze, sI, eA, _, c0⟩ := (HA.below (HI.below.trans (HB.mono HI.below.size)) cV).int hx
     injection eA with eA
     injection eA with eA1 eA2
     subst eA1
     subst eA2
     rw [← Nat.add_assoc] at c0
     obtain ⟨o, ho⟩ := ex (8 + 8 * j)
     have r1 : (8 : Int) + 8 * (j : Int) = (o : Int) := oM
     have r2 : o + 8 ≤ 64 := oM
     have HXP : Hid (lay (fI seq bc k j ++ [0, 0]) o (eM (l4 x) 8) = fI seq bc k (j + 1) ++ [0, 0]) := by
      rw [← ho]
      exact Mm seq bc k j x oM (by rw [UO]; exact hx) [0, 0]
     have ya : Hid ((fI seq bc k j ++ [0, 0]).length = 64) := by rw [Hid, List.length_append, rA _ _ _ _ oM]; rfl
     have HU := iD (oR x)
     have XP := iD (zz wa.heap.size wa.heap.size 64 64 o 8 (64 - o) _ (IntKind.u64.wrap x) wr HO ya oM oM HU)
     clear hx ho
     go_wp2_with (fail)
     refine XP.mono ?_
     rintro e w4 ⟨rfl, VS, V8⟩
     have Q7 : Hid (w4.ownsRow wa.heap.size 5 1 (.slice (some ⟨wa.heap.size, 0, none⟩) 64 64) 64 (ag .u8 (fI seq bc k (j + 1) ++ [0, 0]))) := by
      rw [Hid, ← HXP]
      exact VS
     have xE : Hid (bW wa w4) := HB.trans (ou V8 cV HB.size)
     clear VS V8 c0
     go_wp2
     go_roundw
     case rel => exact ⟨j + 1, oM, by go_num, Q7, xE⟩
     case measure => simp [intOf]; omega
    have Ow : j = m := oM
    subst Ow
    have ZE : Hid (fI seq bc k j = fH seq bc k) := by
     by_cases e6 : j = 6
     ·subst e6; rfl
     exact I8 seq bc k j oM (by rw [HN, UO]; have := HQ8 oM; omega)
    have MR : Hid (wr.ownsRow wa.heap.size 5 1 (.slice (some ⟨wa.heap.size, 0, none⟩) 64 64) 64 (ag .u8 (fH seq bc k ++ [0, 0]))) := by
     rw [Hid, ← ZE]
     exact HO
    have HZ := iD (ye (some ⟨wa.heap.size, 0, none⟩) 62 64 (fH seq bc k) wr.drew (((KM MR)).below fT cV) (ep _ _ _) (oh seq bc k 6 oM (by rw [HN]; omega)) oM)
    obtain ⟨z, hz⟩ := ex (cr (fH seq bc k))
    have Z6 := gm (fH seq bc k)
    rw [ep, hz] at Z6
    have zw : IntKind.u64.wrap z = z := by rw [IntKind.wrap_u64]; omega
    have HPZ : Hid (lay (fH seq bc k ++ [0, 0]) 62 (eM (IntKind.u64.wrap z) 2) = eL seq bc k) := by rw [Hid, zw, ← hz]; exact LL seq bc k
    rw [hz] at HZ
    have XP := iD (zz wa.heap.size wa.heap.size 64 64 62 2 2 _ (IntKind.u64.wrap z) wr.drew (aD MR (Below.drew bV)) (by rw [List.length_append, ep]; rfl) oM oM (by rw [zw]; omega))
    clear hz ZE zw
    go_upto_region 15 with (fail)
    go_region_with (first
     | (go_at_call 124; with_reducible refine HZ.out.mono ?_; rintro e wz ⟨rfl, rfl⟩)
     | (go_at_call 125; with_reducible refine XP.out.mono ?_; rintro e w6 ⟨rfl, oH, Bb⟩))
    have DB : Hid (w6.ownsRow wa.heap.size 5 1 (.slice (some ⟨wa.heap.size, 0, none⟩) 64 64) 64 (ag .u8 (eL seq bc k))) := by
     rw [Hid, ← HPZ]
     exact oH
    have Rh : Hid (bW wa w6) := (HB.trans (Below.drew bV |>.mono HB.size)).trans (ou Bb cV HB.size)
    have PI := iD (HI.ab Rh)
    have AL := iD (mR DB HI.below.size)
    clear oH Bb
    go_wp2_with (at_builtin; refine wpList_append_own _ rfl _ _ 41 rfl w.heap.size 32 i23 (.slice none 0 0) 1 24 underlying41 hi uz P7 Ce rfl oM _ _ _ rfl (PI.fP _) ⟨w6.heap.size, 0, none⟩ 1 1 [.slice (some ⟨wa.heap.size, 0, none⟩) 64 64] rfl rfl (cell_one_new _ _ _) (by simp [Value.oneCell']) (by unfold maxLen; omega) oM (by have := PI.below.size; simp; omega) ?_)
    intro v' w8 hown8 hgrow8 _
    have PH := iD (PI.push AL hown8 hgrow8)
    clear hown8 hgrow8
    go_wp2
    go_roundw
    case rel => exact ⟨k + 1, oM, by go_num, _, PH⟩
    case measure => simp [intOf]; omega
  have kg : k = P := oM
  subst kg
  obtain ⟨A', c', rfl, h1, h2, _⟩ := bL HI.own
  have HR := iD (HI.rd (by rw [HN, PB]) X HX)
  have HH := iD (And.intro h1 h2)
  clear h1 h2
  go_wp2
  go_ret2
  exact ⟨A', c', rfl, HH.1, HH.2, HR, HI.below⟩
structure ah (X : Nat → Prop) (w w' : World) : Prop where
 size : w.heap.size ≤ w'.heap.size
 block : ∀ k, k < w.heap.size → ¬ X k → w'.heap[k]? = w.heap[k]?
theorem ah.refl (X : Nat → Prop) (w : World) : ah X w w := ⟨Nat.le_refl _, fun _ _ _ => rfl⟩
theorem ah.trans {a b c : World} (h : ah X a b) (k : ah X b c) : ah X a c :=
 ⟨Nat.le_trans h.size k.size, fun i hi hx => (k.block i (Nat.lt_of_lt_of_le hi h.size) hx).trans (h.block i hi hx)⟩
theorem ah.ak (h : bW w w') : ah X w w' := ⟨h.size, fun k hk _ => h.block k hk⟩
theorem ah.set (w : World) (p : Addr) (u : Value) (h : X p.block) : ah X w (w.setCell p u) :=
 ⟨by simp [World.setCell], fun k _ hx => Below.heap_setCell _ _ _ _ (fun e => hx (e ▸ h))⟩
theorem ah.j9 (h : cE L w w') (hX : X L.d ∧ X L.gi ∧ X L.gw) : ah X w w' :=
 ⟨h.size, fun k hk hx => h.block k hk (fun e => hx (e ▸ hX.1)) (fun e => hx (e ▸ hX.2.1)) (fun e => hx (e ▸ hX.2.2))⟩
theorem cn.ao (h : cn X w A xs) (k : ah Y w w') (hs : ∀ b, Y b → X b := by first | exact fun _ h => h | exact fun _ h => .inl h) : cn X w' A xs := fun hx => by
 obtain ⟨b, off, e, aW, hn, hc⟩ := h hx
 exact ⟨b, off, e, Nat.lt_of_lt_of_le aW k.size, hn, fun j u hu => (cell_of_block (k.block b aW (fun hy => hn (hs b hy)))).trans (hc j u hu)⟩
theorem cn.dQ (h : cn X w A xs) (hY : ∀ b, b < w.heap.size → Y b → X b) : cn Y w A xs := fun hx => by
 obtain ⟨b, off, e, aW, hn, hc⟩ := h hx
 exact ⟨b, off, e, aW, fun hb => hn (hY b aW hb), hc⟩
theorem cn.part {ys : List Value} (h : cn X w A xs) (hp : ys <+: xs) : cn X w A ys := by
 intro hy
 obtain ⟨z, rfl⟩ := hp
 obtain ⟨b, off, e, aW, hn, hc⟩ := h (by simp [hy])
 refine ⟨b, off, e, aW, hn, fun j u hu => hc j u ?_⟩
 rw [List.getElem?_append_left (List.getElem?_eq_some_iff.1 hu).1]
 exact hu
theorem lU.ao (h : lU X w A ps) (k : ah Y w w') (hs : ∀ b, Y b → X b := by first | exact fun _ h => h | exact fun _ h => .inl h) : lU X w' A ps := by
 obtain ⟨vs, a, b, c⟩ := h
 refine ⟨vs, a.ao k hs, b, fun i p hp => ?_⟩
 obtain ⟨Q, m, cc, d1, d2, d3, d4, d5⟩ := c i p hp
 exact ⟨Q, m, cc, d1, d2, d3, d4, d5.ao k hs⟩
theorem lU.dQ (h : lU X w A ps) (hY : ∀ b, b < w.heap.size → Y b → X b) : lU Y w A ps := by
 obtain ⟨vs, a, b, c⟩ := h
 refine ⟨vs, a.dQ hY, b, fun i p hp => ?_⟩
 obtain ⟨Q, m, cc, d1, d2, d3, d4, d5⟩ := c i p hp
 exact ⟨Q, m, cc, d1, d2, d3, d4, d5.dQ hY⟩
theorem lU.nil : lU X w A [] := ⟨[], fun h => absurd rfl h, rfl, fun i p h => by simp at h⟩
structure Sc where
 D : Nat
 G : Nat
 cg : Nat
 As : Option Addr
 cs : Nat
 Av : Option Addr
 cv : Nat
 Ap : Option Addr
 cp : Nat
 Au : Option Addr
 cu : Nat
variable {S : Sc}
def Sc.cells (S : Sc) (d : Nat) (s : St) : List Value :=
 [.pointer (some ⟨d, 0, none⟩), .int .i64 s.first, .int .i64 s.aa, .slice S.As s.ax.length S.cs, .slice S.Av s.an.length S.cv, .slice (some ⟨S.G, 0, none⟩) s.aj.length S.cg,
  .int .i64 s.seq, .int .i64 s.block, .int .i64 s.av, .bool s.af, .slice S.Ap s.bZ.length S.cp, .slice S.Au s.values.length S.cu, .int .i64 s.bH, .int .i64 s.bg, .int .i64 s.done, .bool s.erase, .bool s.bt]
def bQ (L : Lc) (S : Sc) (b : Nat) : Prop := b = L.d ∨ b = L.gi ∨ b = L.gw ∨ b = S.D ∨ b = S.G
def eu (L : Lc) (S : Sc) (b : Nat) : Prop := bQ L S b ∨ L.E b
def bK (l : List eB) : List Value := l.flatMap eB.cells
theorem bQ.fl (L : Lc) (S : Sc) : bQ L S L.d ∧ bQ L S L.gi ∧ bQ L S L.gw := ⟨.inl rfl, .inr (.inl rfl), .inr (.inr (.inl rfl))⟩
theorem bQ.d (L : Lc) (S : Sc) : bQ L S S.D := .inr (.inr (.inr (.inl rfl)))
theorem bQ.g (L : Lc) (S : Sc) : bQ L S S.G := .inr (.inr (.inr (.inr rfl)))
theorem eu.fl (L : Lc) (S : Sc) : eu L S L.d ∧ eu L S L.gi ∧ eu L S L.gw := ⟨.inl (bQ.fl L S).1, .inl (bQ.fl L S).2.1, .inl (bQ.fl L S).2.2⟩
structure Jg (X : Nat → Prop) (w : World) (S : Sc) (s : St) : Prop where
 sp : cn X w S.As (bK s.ax)
 P2 : s.ax.length ≤ S.cs
 P1 : S.cs ≤ maxLen
 sv : cn X w S.Av (aw s.an)
 T0 : s.an.length ≤ S.cv
 TZ : S.cv ≤ maxLen
 pp : lU X w S.Ap s.bZ
 T4 : s.bZ.length ≤ S.cp
 T3 : S.cp ≤ maxLen
 vv : cn X w S.Au (aw s.values)
 Rr : s.values.length ≤ S.cu
 Rq : S.cu ≤ maxLen
theorem Jg.ao (h : Jg X w S s) (k : ah Y w w') (hs : ∀ b, Y b → X b := by first | exact fun _ h => h | exact fun _ h => .inl h) : Jg X w' S s :=
 ⟨h.sp.ao k hs, h.P2, h.P1, h.sv.ao k hs, h.T0, h.TZ, h.pp.ao k hs, h.T4, h.T3, h.vv.ao k hs, h.Rr, h.Rq⟩
theorem Jg.dQ (h : Jg X w S s) (hY : ∀ b, b < w.heap.size → Y b → X b) : Jg Y w S s :=
 ⟨h.sp.dQ hY, h.P2, h.P1, h.sv.dQ hY, h.T0, h.TZ, h.pp.dQ hY, h.T4, h.T3, h.vv.dQ hY, h.Rr, h.Rq⟩
theorem Jg.pU (h : Jg X w S s) (s' : St) (e1 : s'.ax = s.ax) (e2 : s'.an = s.an) (e3 : s'.bZ = s.bZ) (e4 : s'.values = s.values) : Jg X w S s' :=
 ⟨by rw [e1]; exact h.sp, by rw [e1]; exact h.P2, h.P1, by rw [e2]; exact h.sv, by rw [e2]; exact h.T0, h.TZ, by rw [e3]; exact h.pp, by rw [e3]; exact h.T4, h.T3, by rw [e4]; exact h.vv, by rw [e4]; exact h.Rr, h.Rq⟩
structure bM (w0 w : World) (L : Lc) (S : Sc) (f : Fl) (s : St) : Prop where
 fl : bB w0 w L f
 dd : w0.heap.size ≤ S.D
 dl : S.D < w.heap.size
 d1 : S.D ≠ L.d
 d2 : S.D ≠ L.gi
 d3 : S.D ≠ L.gw
 dg : S.D ≠ S.G
 g1 : S.G ≠ L.d
 g2 : S.G ≠ L.gi
 g3 : S.G ≠ L.gw
 row : ∀ j u, (S.cells L.d s)[j]? = some u → w.cell? ⟨S.D, j, none⟩ = some u
 fz : ∀ j, w.frozen? ⟨S.D, j, none⟩ = false
 sg : w.ownsRow w0.heap.size 3 1 (.slice (some ⟨S.G, 0, none⟩) s.aj.length S.cg) s.aj.length (aw s.aj)
 sl : Jg (eu L S) w S s
 pk : cn (eu L S) w L.Ap (ag .u8 f.az)
theorem bM.gl (h : bM w0 w L S f s) : w0.heap.size ≤ S.G ∧ S.G < w.heap.size := h.sg.lt _ rfl
theorem bM.cg (h : bM w0 w L S f s) : s.aj.length ≤ S.cg ∧ S.cg ≤ maxLen := by
 obtain ⟨A, c, hv, h1, h2, hr⟩ := bL h.sg
 injection hv with e1 e2 e3
 subst e3
 exact ⟨h1, h2⟩
theorem bB.aside (h : bB w0 w L f) (hb : bW w0 w') (ho : ah X w w') (h1 : ¬ X L.d) (h2 : ¬ X L.gi) (h3 : ¬ X L.gw) 
 (hf : ∀ j, w'.frozen? ⟨L.d, j, none⟩ = w.frozen? ⟨L.d, j, none⟩) (hoi : w'.ownsRow w0.heap.size 5 1 (.slice (some ⟨L.gi, 0, none⟩) f.img.length L.ci) f.img.length (ag .u8 f.img))
 (Ex : w'.ownsRow w0.heap.size 3 1 (.slice (some ⟨L.gw, 0, none⟩) f.aq.length L.cw) f.aq.length (aw f.aq)) (hp : gQ L w' L.Ap (ag .u8 f.az)) : bB w0 w' L f := by
 have hc : ∀ j, w'.cell? ⟨L.d, j, none⟩ = w.cell? ⟨L.d, j, none⟩ := fun j => cell_of_block (ho.block L.d h.ld h1)
 exact ⟨h.ok, hb, h.bd, Nat.lt_of_lt_of_le h.ld ho.size, h.ni, h.nw, h.iw, (hc 0).trans h.c0, (hc 1).trans h.c1, (hc 2).trans h.c2, (hc 3).trans h.c3, (hc 4).trans h.c4, (hc 5).trans h.c5, fun j => (hf j).trans (h.fz j), hoi, Ex, h.pc, h.pm, hp, fun b hE => Nat.lt_of_lt_of_le (h.eb b hE) ho.size⟩
section
variable {w0 w : World} {L : Lc} {S : Sc} {f : Fl} {s : St}
theorem bM.ab (h : bM w0 w L S f s) (hb : bW w w') : bM w0 w' L S f s := by
 have hc : ∀ j, w'.cell? ⟨S.D, j, none⟩ = w.cell? ⟨S.D, j, none⟩ := fun j => hb.cell (p := ⟨S.D, j, none⟩) h.dl
 exact ⟨h.fl.ab hb, h.dd, Nat.lt_of_lt_of_le h.dl hb.size, h.d1, h.d2, h.d3, h.dg, h.g1, h.g2, h.g3, fun j u hu => (hc j).trans (h.row j u hu), fun j => (hb.frozen (p := ⟨S.D, j, none⟩) h.dl).trans (h.fz j),
  aD h.sg hb, h.sl.ao (.ak hb), h.pk.ao (.ak hb)⟩
theorem bM.flash (h : bM w0 w L S f s) (hf : bB w0 w' L f') (ho : cE L w w') (hp : f'.az = f.az) (hfz : ∀ j, w'.frozen? ⟨S.D, j, none⟩ = false) 
 (hs : w'.ownsRow w0.heap.size 3 1 (.slice (some ⟨S.G, 0, none⟩) s.aj.length S.cg) s.aj.length (aw s.aj)) : bM w0 w' L S f' s := by
 have hX : ah (bQ L S) w w' := .j9 ho (bQ.fl L S)
 exact ⟨hf, h.dd, Nat.lt_of_lt_of_le h.dl ho.size, h.d1, h.d2, h.d3, h.dg, h.g1, h.g2, h.g3, fun j u hu => (cell_of_block (ho.block S.D h.dl h.d1 h.d2 h.d3)).trans (h.row j u hu), hfz, hs, h.sl.ao hX, by rw [hp]; exact h.pk.ao hX⟩
theorem cF {b j : Nat} (h : w'.heap[b]? = w.heap[b]?) : w'.frozen? ⟨b, j, none⟩ = w.frozen? ⟨b, j, none⟩ := by
 simp only [World.frozen?, h]
theorem dw {g : Nat} (h : w.ownsRow base e size (.slice (some ⟨g, 0, none⟩) n c) n xs) (hb : w'.heap[g]? = w.heap[g]?) : w'.ownsRow base e size (.slice (some ⟨g, 0, none⟩) n c) n xs := by
 refine ⟨h.1, ?_⟩
 rcases h.2 with ⟨hv, _⟩ | ⟨g', cap, cur, hv, h1, h2, h3⟩
 ·cases hv
 injection hv with hv e2 e3
 injection hv with hv
 injection hv with hv
 subst hv
 exact .inr ⟨_, cap, cur, by rw [e3], h1, by rw [hb]; exact h2, h3⟩
theorem bM.EI (h : bM w0 w L S f s) (hf : bB w0 w' L f') (ho : cE L w w') (hp : f'.az = f.az) : bM w0 w' L S f' s := by
 refine h.flash hf ho hp (fun j => ?_) ?_
 ·rw [cF (ho.block S.D h.dl h.d1 h.d2 h.d3)]
  exact h.fz j
 exact dw h.sg (ho.block S.G h.gl.2 h.g1 h.g2 h.g3)
theorem bM.LO (h : bM w0 w L S f s) {Ap : Option Addr} {cp : Nat} (hf : bB w0 w' { L with Ap := Ap, cp := cp } f') (ho : cE L w w') (hp : cn (eu L S) w' Ap (ag .u8 f'.az)) : bM w0 w' { L with Ap := Ap, cp := cp } S f' s := by
 have hX : ah (bQ L S) w w' := .j9 ho (bQ.fl L S)
 refine ⟨hf, h.dd, Nat.lt_of_lt_of_le h.dl ho.size, h.d1, h.d2, h.d3, h.dg, h.g1, h.g2, h.g3, fun j u hu => (cell_of_block (ho.block S.D h.dl h.d1 h.d2 h.d3)).trans (h.row j u hu), fun j => ?_, ?_, h.sl.ao hX, hp⟩
 ·rw [cF (ho.block S.D h.dl h.d1 h.d2 h.d3)]
  exact h.fz j
 exact dw h.sg (ho.block S.G h.gl.2 h.g1 h.g2 h.g3)
theorem bM.cell (h : bM w0 w L S f s) (j : Nat) (u : Value) (S' : Sc) (s' : St) (e1 : S'.D = S.D) (e2 : S'.G = S.G) (e3 : S'.cg = S.cg) (e4 : s'.aj = s.aj)
 (hc : S'.cells L.d s' = (S.cells L.d s).set j u) (hl : Jg (eu L S) w S' s') :
 bM w0 (w.setCell ⟨S.D, j, none⟩ u) L S' f s' ∧ ah (bQ L S) w (w.setCell ⟨S.D, j, none⟩ u) := by
 have ho : ah (bQ L S) w (w.setCell ⟨S.D, j, none⟩ u) := .set w ⟨S.D, j, none⟩ u (bQ.d L S)
 have ng : ah (fun b => b = S.D) w (w.setCell ⟨S.D, j, none⟩ u) := .set w ⟨S.D, j, none⟩ u rfl
 have hb : bW w0 (w.setCell ⟨S.D, j, none⟩ u) := h.fl.below.setCell (p := ⟨S.D, j, none⟩) h.dd _
 have hX : ∀ b, eu L S' b ↔ eu L S b := fun b => by unfold eu bQ; rw [e1, e2]
 have hX' : eu L S' = eu L S := funext fun b => propext (hX b)
 have gU : bB w0 (w.setCell ⟨S.D, j, none⟩ u) L f := by
  refine h.fl.aside hb ng (fun e => h.d1 e.symm) (fun e => h.d2 e.symm) (fun e => h.d3 e.symm) (fun i => by rw [World.frozen?_setCell]) ?_ ?_ ((h.pk.ao ho).apart (eu.fl L S))
  ·exact dw h.fl.oi (ng.block L.gi h.fl.bi.2 (fun e => h.d2 e.symm))
  exact dw h.fl.ow (ng.block L.gw h.fl.bw.2 (fun e => h.d3 e.symm))
 refine ⟨⟨gU, by rw [e1]; exact h.dd, by rw [e1]; simpa [World.setCell] using h.dl, by rw [e1]; exact h.d1, by rw [e1]; exact h.d2, by rw [e1]; exact h.d3, by rw [e1, e2]; exact h.dg, by rw [e2]; exact h.g1, by rw [e2]; exact h.g2, by rw [e2]; exact h.g3, ?_, ?_, ?_, by rw [hX']; exact hl.ao ho, by rw [hX']; exact h.pk.ao ho⟩, ho⟩
 ·intro i v hv
  rw [e1]
  rw [hc, List.getElem?_set] at hv
  by_cases hij : j = i
  ·subst hij
   rw [iP rfl] at hv
   split at hv
   ·rename_i aW
    injection hv with hv
    subst hv
    exact World.cell?_setCell_same _ _ _ (h.row j _ (List.getElem?_eq_getElem aW))
   cases hv
  rw [iN hij] at hv
  rw [World.cell?_setCell_other _ _ _ _ (by
   intro e
   injection e with _ e
   exact hij e)]
  exact h.row i v hv
 ·intro i
  rw [e1, World.frozen?_setCell]
  exact h.fz i
 rw [e2, e3, e4]
 exact dw h.sg (ng.block S.G h.gl.2 (fun e => h.dg e.symm))
theorem bM.U8 (h : bM w0 w L S f s) (k : Nat) (x : Int) :
 bM w0 (w.setCell ⟨S.G, k, none⟩ (.int .i64 x)) L S f { s with aj := s.aj.set k x } ∧ ah (bQ L S) w (w.setCell ⟨S.G, k, none⟩ (.int .i64 x)) := by
 have ho : ah (bQ L S) w (w.setCell ⟨S.G, k, none⟩ (.int .i64 x)) := .set w ⟨S.G, k, none⟩ _ (bQ.g L S)
 have ng : ah (fun b => b = S.G) w (w.setCell ⟨S.G, k, none⟩ (.int .i64 x)) := .set w ⟨S.G, k, none⟩ _ rfl
 have hb : bW w0 (w.setCell ⟨S.G, k, none⟩ (.int .i64 x)) := h.fl.below.setCell (p := ⟨S.G, k, none⟩) h.gl.1 _
 have gU : bB w0 (w.setCell ⟨S.G, k, none⟩ (.int .i64 x)) L f := by
  refine h.fl.aside hb ng (fun e => h.g1 e.symm) (fun e => h.g2 e.symm) (fun e => h.g3 e.symm) (fun i => by rw [World.frozen?_setCell]) ?_ ?_ ((h.pk.ao ho).apart (eu.fl L S))
  ·exact dw h.fl.oi (ng.block L.gi h.fl.bi.2 (fun e => h.g2 e.symm))
  exact dw h.fl.ow (ng.block L.gw h.fl.bw.2 (fun e => h.g3 e.symm))
 refine ⟨⟨gU, h.dd, by simpa [World.setCell] using h.dl, h.d1, h.d2, h.d3, h.dg, h.g1, h.g2, h.g3, ?_, ?_, ?_, ⟨h.sl.sp.ao ho, h.sl.P2, h.sl.P1, h.sl.sv.ao ho, h.sl.T0, h.sl.TZ, h.sl.pp.ao ho, h.sl.T4, h.sl.T3, h.sl.vv.ao ho, h.sl.Rr, h.sl.Rq⟩, h.pk.ao ho⟩, ho⟩
 ·intro i v hv
  rw [cell_of_block (ng.block S.D h.dl h.dg)]
  refine h.row i v ?_
  rw [← hv]
  unfold Sc.cells
  simp only [List.length_set]
 ·intro i
  rw [World.frozen?_setCell]
  exact h.fz i
 have e : aw (s.aj.set k x) = (aw s.aj).set k (.int .i64 x) := by simp [aw]
 simp only [List.length_set, e]
 exact (h.sg.stored k (.int .i64 x)).1
end
theorem Rd.drew (h : Rd w B A xs) (hB : B ≤ w.heap.size) (q : Nat) : Rd (w.drewN q) B A xs := h.below (Below.drewN bV q) hB
theorem EV (w : World) (q : Nat) : (w.drewN q).heap.size = w.heap.size := rfl
theorem B6 (hA : Rd w w.heap.size A (ag .u8 b)) (hn : b.length = n) (hb : Bytes b) (qS : n ≤ 1000000) :
 Calls prog 116 #[.slice A n c] (w.drewN q) fun e w' => e = .returned (.int .u64 (eN b)) ∧ w' = w.drewN q :=
 (vL A n c b (w.drewN q) (hA.drew cV q) hn hb qS).mono fun _ _ ⟨a, b⟩ => ⟨a, b.symm⟩
theorem Nz (hA : Rd w w.heap.size A (ag .u8 b)) (hn : b.length = n) (hb : Bytes b) (qS : n ≤ 1000000) :
 Calls prog 124 #[.slice A n c] (w.drewN q) fun e w' => e = .returned (.int .i64 (cr b)) ∧ w' = w.drewN q :=
 (ye A n c b (w.drewN q) (hA.drew cV q) hn hb qS).mono fun _ _ ⟨a, b⟩ => ⟨a, b.symm⟩
theorem Cy (h : b.length = 64) : du b = (eN (b.drop 62) == cr (b.take 62)) := by
 unfold du
 rw [h]
 by_cases e : eN (b.drop 62) = cr (b.take 62)
 ·rw [decide_eq_true ⟨rfl, e⟩, e]; simp
 rw [decide_eq_false (fun k => e k.2)]
 symm
 rw [beq_eq_false_iff_ne]
 exact e
theorem Cx (h : b.length ≠ 64) : du b = false := by
 unfold du
 rw [decide_eq_false (fun k => h k.1)]
theorem LI (A : Option Addr) (n c : Nat) (b : List Int) (w : World) (hA : Rd w w.heap.size A (ag .u8 b)) (hn : b.length = n) (qa : n ≤ c) (fS : c ≤ maxLen) (hb : Bytes b) :
 Calls prog 115 #[.slice A n c] w fun e w' => e = .returned (.bool (du b)) ∧ ∃ q, w' = w.drewN q := by
 unfold maxLen at fS
 by_cases EF : n = 64
 ·subst EF
  have HG := iD (Cy hn)
  obtain ⟨ba, off, rfl⟩ : ∃ ba off, A = some ⟨ba, off, none⟩ := by
   obtain ⟨x, hx⟩ := getElem?_of_lt (l := b) (k := 0) oM
   obtain ⟨b', o, e, _⟩ := hA.mo hx
   exact ⟨b', o, e⟩
  have r1 : Rd w w.heap.size (some ⟨ba, off + 62, none⟩) (ag .u8 (b.drop 62)) := by
   have := hA.part 62 2
   rw [List.take_of_length_le (by rw [List.length_drop, hn]; exact Nat.le_refl 2)] at this
   exact this
  have r2 : Rd w w.heap.size (some ⟨ba, off, none⟩) (ag .u8 (b.take 62)) := by
   have := hA.part 0 62
   rw [List.drop_zero] at this
   exact this
  have ZG : Hid (∀ q, Calls prog 116 #[.slice (some ⟨ba, off + 62, none⟩) 2 (c - 62)] (w.drewN q) fun e w' => e = .returned (.int .u64 (eN (b.drop 62))) ∧ w' = w.drewN q) :=
   fun q => B6 r1 (by rw [List.length_drop, hn]) (fun x hx => hb x (List.mem_of_mem_drop hx)) oM
  have H85 : Hid (∀ q, Calls prog 124 #[.slice (some ⟨ba, off, none⟩) 62 c] (w.drewN q) fun e w' => e = .returned (.int .i64 (cr (b.take 62))) ∧ w' = w.drewN q) :=
   fun q => Nz r2 (by rw [List.length_take, hn]; rfl) (fun x hx => hb x (List.mem_of_mem_take hx)) oM
  have hz := gm (b.take 62)
  rw [List.length_take, hn] at hz
  obtain ⟨z1, z2⟩ := hz
  generalize eN (b.drop 62) = N at *
  generalize cr (b.take 62) = Z at *
  have z3 : Z < 1000 := oM
  have z4 : IntKind.u64.wrap Z = Z := by rw [IntKind.wrap_u64]; omega
  clear hA hn hb r1 r2 z2
  go_enter func115, ntmps115
  go_wp2
  go_quiet ((first | (go_at_call 116; with_reducible exact Calls.quiet_of_same (ZG.out _)) | (go_at_call 124; with_reducible exact Calls.quiet_of_same (H85.out _))))
  go_wp2
  go_ret
  exact ⟨by rw [HG]; rfl, _, rfl⟩
 have HG := iD (Cx (b := b) oM)
 have d : ((n : Int) == 64) = false := by simp; omega
 clear hA hn hb EF
 go_enter func115, ntmps115
 go_wp2
 go_quiet (fail)
 go_wp2
 go_ret
 exact ⟨by rw [HG]; rfl, _, rfl⟩
theorem IT (A B : Option Addr) (n m c d : Nat) (a b : List Int) (w : World) (hA : Rd w w.heap.size A (ag .u8 a)) (hB : Rd w w.heap.size B (ag .u8 b)) (hn : a.length = n) (hm : b.length = m) (ha : Bytes a) (hb : Bytes b) :
 Calls prog 119 #[.slice A n c, .slice B m d] w fun e w' => e = .returned (.bool (decide (a = b))) ∧ w = w' := by
 have h1 := lN (c := c) hA hn
 have h2 := lN (c := d) hB hm
 have HE := iD (FP ha hb)
 clear hA hB hn hm ha hb
 go_enter func119, ntmps119
 go_wp2
 go_ret
 refine ⟨?_, rfl⟩
 rw [← HE]
 first | rfl | simp
theorem vg {l m : List (List Int)} {x y : List Int} (hx : l[k]? = some x) (hy : m[k]? = some y) (h : l.take k = m.take k) (e : x = y) : l.take (k + 1) = m.take (k + 1) := by
 rw [bA l k x hx, bA m k y hy, h, e]
theorem lU.get (h : lU X w A ps) (hp : ps[i]? = some p) :
 ∃ b off Q c, A = some ⟨b, off, none⟩ ∧ b < w.heap.size ∧ w.cell? ⟨b, off + i, none⟩ = some (.slice Q p.length c) ∧ p.length ≤ c ∧ c ≤ maxLen ∧ cn X w Q (ag .u8 p) := by
 obtain ⟨vs, h1, h2, h3⟩ := h
 obtain ⟨Q, m, c, e1, rfl, e3, e4, e5⟩ := h3 i p hp
 obtain ⟨b, off, rfl, aW, _, hc⟩ := h1 (by intro e; rw [e] at e1; simp at e1)
 exact ⟨b, off, Q, c, rfl, aW, hc i _ e1, e3, e4, e5⟩
theorem lU.drew (h : lU X w A ps) (q : Nat) : lU X (w.drewN q) A ps := h.ao (.ak (Below.drewN bV q))
theorem lU.below (h : lU X w A ps) (hb : bW w w') : lU X w' A ps := h.ao (.ak hb)
theorem ET (A B : Option Addr) (n m c d : Nat) (a b : List (List Int)) (w : World) (hA : lU X w A a) (hB : lU Y w B b) (hn : a.length = n) (hm : b.length = m) (ha : ∀ p ∈ a, Bytes p) (hb : ∀ p ∈ b, Bytes p) (VU : n ≤ maxLen) (Qm : m ≤ maxLen) :
 Calls prog 118 #[.slice A n c, .slice B m d, .func (.func 119) #[] #[]] w fun e w' => e = .returned (.bool (decide (a = b))) ∧ w = w' := by
 unfold maxLen at VU Qm
 have HN := iD hn
 have HM := iD hm
 have GY := iD ha
 have ur := iD hb
 clear hn hm ha hb
 by_cases fR : n = m
 ·subst fR
  have HA := iD hA
  have HB := iD hB
  clear hA hB
  have fR : ((n : Int) != (n : Int)) = false := by simp
  go_enter func118, ntmps118
  go_wp2
  go_loopw [17] (fun i wr => ∃ k : Nat, k ≤ n ∧ i = .int .i64 k ∧ a.take k = b.take k ∧ w = wr) (fun i wr => n - (intOf i).toNat)
  case atStart => exact ⟨0, Nat.zero_le _, rfl, rfl, rfl⟩
  case round =>
   obtain ⟨k, hk, rfl, ht, rfl⟩ := hrel
   have HT := iD ht
   clear ht
   by_cases aW : k < n
   ·obtain ⟨x, hx⟩ := getElem?_of_lt (l := a) (k := k) (by rw [HN]; exact aW)
    obtain ⟨y, hy⟩ := getElem?_of_lt (l := b) (k := k) (by rw [HM]; exact aW)
    obtain ⟨b1, o1, Q1, c1, rfl, _, e1, _, _, r1⟩ := HA.get hx
    obtain ⟨b2, o2, Q2, c2, rfl, _, e2, _, _, r2⟩ := HB.get hy
    have HE := iD (IT Q1 Q2 x.length y.length c1 c2 x y w r1.rd r2.rd rfl rfl (GY x (List.mem_of_getElem? hx)) (ur y (List.mem_of_getElem? hy)))
    have HX := iD hx
    have HY := iD hy
    generalize x.length = lx at *
    generalize y.length = ly at *
    clear hx hy r1 r2
    by_cases he : x = y
    ·rw [decide_eq_true he] at HE
     have HQ := iD he
     clear he
     go_wp2_with (fail)
     refine HE.mono ?_
     rintro e w1 ⟨rfl, rfl⟩
     go_wp2
     go_roundw
     case rel => exact ⟨k + 1, oM, by go_num, vg HX HY HT HQ, by first | rfl | trivial⟩
     case measure => simp [intOf]; omega
    rw [decide_eq_false he] at HE
    have HF : Hid (decide (a = b) = false) := decide_eq_false (fun e => he (by
     have h1 := HX.out
     rw [e, HY] at h1
     exact (Option.some.inj h1).symm))
    clear he
    go_wp2_with (fail)
    refine HE.mono ?_
    rintro e w1 ⟨rfl, rfl⟩
    go_wp2
    go_ret
    exact ⟨by rw [HF]; rfl, rfl⟩
   have kg : k = n := oM
   subst kg
   have HF : Hid (decide (a = b) = true) := decide_eq_true (by
    have h1 := HT.out
    rwa [List.take_of_length_le (by rw [HN]; omega), List.take_of_length_le (by rw [HM]; omega)] at h1)
   go_wp2
   go_ret
   exact ⟨by rw [HF]; rfl, rfl⟩
 have hne' : ((n : Int) != (m : Int)) = true := by simp; omega
 have HF : Hid (decide (a = b) = false) := decide_eq_false (fun e => fR (by rw [← HN, ← HM, e]))
 clear fR
 go_enter func118, ntmps118
 go_wp2
 go_ret
 exact ⟨by rw [HF]; rfl, rfl⟩
theorem EP (A A' : Option Addr) (n m c c' : Nat) (l l' : List Int) (w : World) (hA : Rd w w.heap.size A (aw l)) (WN : Rd w w.heap.size A' (aw l')) (hn : l.length = n) (hm : l'.length = m) (VU : n ≤ maxLen) (Qm : m ≤ maxLen) :
 Calls prog 120 #[.slice A n c, .slice A' m c'] w fun e w' => e = .returned (.bool (decide (l = l'))) ∧ ∃ k, w' = w.drewN k := by
 unfold maxLen at VU Qm
 have HN := iD hn
 have HM := iD hm
 clear hn hm
 by_cases fR : n = m
 ·subst fR
  have HA := iD hA
  have HA' := iD WN
  clear hA WN
  have fR : ((n : Int) != (n : Int)) = false := by simp
  go_enter func120, ntmps120
  go_wp2
  go_loopw [13] (fun i wr => ∃ k : Nat, k ≤ n ∧ i = .int .i64 k ∧ l.take k = l'.take k ∧ ∃ q, wr = w.drewN q) (fun i wr => n - (intOf i).toNat)
  case atStart => exact ⟨0, Nat.zero_le _, rfl, rfl, 0, rfl⟩
  case round =>
   obtain ⟨k, hk, rfl, ht, q, rfl⟩ := hrel
   have HT := iD ht
   clear ht
   by_cases aW : k < n
   ·obtain ⟨x, hx⟩ := getElem?_of_lt (l := l) (k := k) (by rw [HN]; exact aW)
    obtain ⟨y, hy⟩ := getElem?_of_lt (l := l') (k := k) (by rw [HM]; exact aW)
    obtain ⟨b, off, rfl, cB, e0⟩ := HA.int hx
    obtain ⟨b', sI, rfl, EC, e1⟩ := HA'.int hy
    have HX := iD hx
    have HY := iD hy
    clear hx hy
    by_cases he : x = y
    ·have he' : (x != y) = false := by simpa using he
     have HE := iD he
     clear he
     go_wp2
     go_quiet (fail)
     go_wp2
     go_roundw
     case rel => exact ⟨k + 1, oM, by go_num, qC HX HY HT HE, _, rfl⟩
     case measure => simp [intOf]; omega
    have he' : (x != y) = true := by simpa using he
    have HE : Hid (decide (l = l') = false) := decide_eq_false (fun e => he (by
     have h1 := HX.out
     rw [e, HY] at h1
     exact (Option.some.inj h1).symm))
    clear he
    go_wp2
    go_quiet (fail)
    go_wp2
    go_ret
    exact ⟨by rw [HE]; rfl, _, World.drewN_drewN ..⟩
   have kg : k = n := oM
   subst kg
   have HE : Hid (decide (l = l') = true) := decide_eq_true (by
    have h1 := HT.out
    rwa [List.take_of_length_le (by rw [HN]; omega), List.take_of_length_le (by rw [HM]; omega)] at h1)
   go_wp2
   go_ret
   exact ⟨by rw [HE]; rfl, _, rfl⟩
 have hne' : ((n : Int) != (m : Int)) = true := by simp; omega
 have HE : Hid (decide (l = l') = false) := decide_eq_false (fun e => fR (by rw [← HN, ← HM, e]))
 clear fR
 go_enter func120, ntmps120
 go_wp2
 go_ret
 exact ⟨by rw [HE]; rfl, 0, rfl⟩
theorem vF {P : Program} {f : FuncId} {args : Array Value} (h : Calls P f args (w.drewN (q + n)) fun e w' => e = .returned v ∧ w' = w.drewN (q + n)) :
 Calls P f args (w.drewN (q + n)) fun e G6 => e = .returned v ∧ ∃ m, G6 = w.drewN (q + m) := h.mono fun _ _ ⟨a, b⟩ => ⟨a, n, b⟩
def PU (w : World) (d : Int × List Int × Int) (e : Ending) (w' : World) : Prop :=
 ∃ A c, e = .returned (.tuple #[.int .i64 d.1, .slice A d.2.1.length c, fy d.2.2]) ∧ w'.ownsRow w.heap.size 3 1 (.slice A d.2.1.length c) d.2.1.length (aw d.2.1) ∧ bW w w'
theorem PU.none {k : Int} (hv : v = fy k) (hb : bW w w') : PU w (0, [], k) (.returned (.tuple #[.int .i64 0, .slice none 0 0, v])) w' :=
 ⟨Option.none, 0, by rw [hv]; rfl, World.ownsRow_nil .., hb⟩
theorem CN (h : ps.length < 1 ∨ 8 < ps.length) : ff ps = (0, [], 11) := by unfold ff; rw [iP h]
theorem CL (h : ¬ (ps.length < 1 ∨ 8 < ps.length)) (hg : ps.all du = false) : ff ps = (0, [], 19) := by unfold ff; rw [iN h, iP hg]
theorem oO (h : ¬ (ps.length < 1 ∨ 8 < ps.length)) (hg : ps.all du = true) (h0 : ps[0]? = some p0) (h1 : p0[1]? = some (n : Int)) (hn : n < 1 ∨ 48 < n ∨ cO n ≠ ps.length) : ff ps = (0, [], 2) := by
 unfold ff
 rw [iN h, iN (by rw [hg]; decide), h0]
 simp only [Option.getD_some, h1, Int.toNat_natCast]
 rw [iP oM]
theorem CO (h : ¬ (ps.length < 1 ∨ 8 < ps.length)) (hg : ps.all du = true) (h0 : ps[0]? = some p0) (h1 : p0[1]? = some (n : Int)) (hn : ¬ (n < 1 ∨ 48 < n ∨ cO n ≠ ps.length)) :
 ff ps = if fX (zb (eN ((p0.drop 2).take 6))) n ≠ 0 ∨ dS (zb (eN ((p0.drop 2).take 6))) ((List.range n).map (lq ps)) ≠ ps then (0, [], 2) else (zb (eN ((p0.drop 2).take 6)), (List.range n).map (lq ps), 0) := by
 unfold ff
 rw [iN h, iN (by rw [hg]; decide), h0]
 simp only [Option.getD_some, h1, Int.toNat_natCast, List.length_map, List.length_range]
 rw [iN oM]
theorem C4 (hp : ps[k]? = some p) (h : (ps.take k).all du = true) (hg : du p = true) : (ps.take (k + 1)).all du = true := by
 rw [bA ps k p hp, List.all_append, h, Bool.true_and]
 simp [hg]
theorem GK (hp : ps[k]? = some p) (hg : du p = false) : ps.all du = false := by
 rw [List.all_eq_false]
 exact ⟨p, List.mem_of_getElem? hp, by rw [hg]; decide⟩
theorem oI (h : du p = true) : p.length = 64 := by
 unfold du at h
 rw [decide_eq_true_eq] at h
 exact h.1
theorem nG {f : Nat → Int} (k : Nat) : (List.range (k + 1)).map f = (List.range k).map f ++ [f k] := by
 rw [List.range_succ, List.map_append]
 rfl
theorem CK (hp : ps[i / 6]? = some p) : lq ps i = zb (eN ((p.drop (8 + 8 * (i % 6))).take 8)) := by
 unfold lq
 rw [hp]
 rfl
theorem pz : ∀ x ∈ (List.range n).map (lq ps), dH x := by
 intro x hx
 rw [List.mem_map] at hx
 obtain ⟨i, _, rfl⟩ := hx
 exact wK _ _
theorem EY (A : Option Addr) (n c : Nat) (ps : List (List Int)) (w : World) (hA : lU X w A ps) (hn : ps.length = n) (qa : n ≤ c) (fS : c ≤ maxLen) (hb : ∀ p ∈ ps, Bytes p) :
 Calls prog 102 #[.slice A n c] w (PU w (ff ps)) := by
 unfold maxLen at fS
 have g1 := ne_nil
 have g2 := fW
 have rH := iD (fun w => gn n 1 8 w)
 by_cases hl : ps.length < 1 ∨ 8 < ps.length
 ·have HD := iD (CN hl)
  rw [decide_eq_false (show ¬ (1 ≤ (n : Int) ∧ (n : Int) ≤ 8) by omega)] at rH
  clear hA hn hb hl
  go_enter func102, ntmps102
  go_wp2_with (fail)
  refine (rH w).mono ?_
  rintro e w1 ⟨rfl, rfl⟩
  go_wp2
  go_ret3
  rw [HD]
  exact .none rfl bV
 rw [decide_eq_true (show 1 ≤ (n : Int) ∧ (n : Int) ≤ 8 by omega)] at rH
 have n1 : 1 ≤ n := oM
 have n8 : n ≤ 8 := oM
 have HL := iD hl
 have HA := iD hA
 have HN := iD hn
 have HB := iD hb
 clear hA hn hb hl
 go_enter func102, ntmps102
 go_wp2_with (fail)
 refine (rH w).mono ?_
 rintro e w1 ⟨rfl, rfl⟩
 go_wp2
 go_loopw [3, 20] (fun v i wr => ∃ k : Nat, k ≤ n ∧ i = .int .i64 k ∧ v = .slice none 0 0 ∧ (ps.take k).all du = true ∧ ∃ q, wr = w.drewN q) (fun _ i _ => n - (intOf i).toNat)
 case atStart => exact ⟨0, Nat.zero_le _, rfl, rfl, rfl, 0, rfl⟩
 case round =>
  obtain ⟨k, hk, rfl, rfl, ht, q, rfl⟩ := hrel
  have HT := iD ht
  clear ht
  by_cases aW : k < n
  ·obtain ⟨p, hp⟩ := getElem?_of_lt (l := ps) (k := k) (by rw [HN]; exact aW)
   obtain ⟨ba, off, Q, cc, rfl, _, e1, p1, p2, r1⟩ := (HA.drew q).get hp
   have HG := iD (LI Q p.length cc p (w.drewN q) r1.rd rfl p1 p2 (HB p (List.mem_of_getElem? hp)))
   have HP := iD hp
   have UQ : Hid (du p = du p) := rfl
   generalize p.length = lp at *
   clear hp r1 p1 p2
   by_cases hg : du p = true
   ·rw [hg] at HG
    have HS := iD (C4 HP HT hg)
    clear hg
    go_wp2_with (fail)
    refine HG.mono ?_
    rintro e w2 ⟨rfl, q2, rfl⟩
    go_wp2
    go_roundw
    case rel => exact ⟨k + 1, oM, by go_num, by first | rfl | trivial, HS, _, rfl⟩
    case measure => simp [intOf]; omega
   have dr : du p = false := by simpa using hg
   rw [dr] at HG
   have HD := iD (CL HL (GK HP dr))
   clear hg dr
   go_wp2_with (fail)
   refine HG.mono ?_
   rintro e w2 ⟨rfl, q2, rfl⟩
   go_wp2
   go_ret3
   rw [HD]
   exact .none rfl (Below.drewN bV _)
  have kg : k = n := oM
  subst kg
  have gG : ps.all du = true := by
   have := HT.out
   rwa [List.take_of_length_le (by rw [HN]; exact Nat.le_refl _)] at this
  obtain ⟨p0, AZ⟩ := getElem?_of_lt (l := ps) (k := 0) (by rw [HN]; omega)
  have Qo : p0.length = 64 := oI (List.all_eq_true.1 gG p0 (List.mem_of_getElem? AZ))
  obtain ⟨x1, Eo⟩ := getElem?_of_lt (l := p0) (k := 1) oM
  have qy := HB p0 (List.mem_of_getElem? AZ) x1 (List.mem_of_getElem? Eo)
  obtain ⟨n0, rfl⟩ := Int.eq_ofNat_of_zero_le qy.1
  obtain ⟨ba, off, Q0, c0, rfl, hbA, e0, p1, p2, r0⟩ := HA.get AZ
  rw [Qo] at e0 p1
  rw [Nat.add_zero] at e0
  obtain ⟨g, o, rfl, hgl, e1⟩ := r0.rd.mo Eo
  have ZG : Hid (∀ q2, Calls prog 116 #[.slice (some ⟨g, o + 2, none⟩) 6 (c0 - 2)] (w.drewN q2) fun e w' => e = .returned (.int .u64 (eN ((p0.drop 2).take 6))) ∧ w' = w.drewN q2) :=
   fun q2 => B6 (r0.rd.part 2 6) (by rw [List.length_take, List.length_drop, Qo]; rfl) (gA (eh (HB p0 (List.mem_of_getElem? AZ)) 2) 6) oM
  have xj := iD gG
  have GP := iD AZ
  have GN := iD Eo
  have Z2 : n0 < 256 := oM
  have oS := iD (fun w => gn n0 1 48 w)
  have TM : Hid (IntKind.i64.wrap (eN ((p0.drop 2).take 6)) = zb (eN ((p0.drop 2).take 6))) := rfl
  obtain ⟨s0, fp⟩ := ex (eN ((p0.drop 2).take 6))
  have xX := iD fp
  rw [fp] at ZG TM
  obtain ⟨s, hs⟩ := ex (zb s0)
  rw [hs] at TM
  have hw0 : IntKind.i64.wrap s0 = s := TM
  have ze : Hid (zb (eN ((p0.drop 2).take 6)) = s) := by rw [Hid, xX]; exact hs
  unfold maxLen at p2
  clear gG AZ Qo Eo qy r0 fp hs
  have k0 : 0 < k := oM
  go_wp2
  have q0 : (8 : Int) ≤ (c0 : Int) := oM
  have q9 : ¬ (c0 = 2) := oM
  have hw1 : IntKind.i64.wrap (n0 : Int) = n0 := IntWalk.i64_in _ oM
  go_quiet ((go_at_call 116; with_reducible exact vF (ZG.out _)))
  clear hw0 hw1 q0 q9 e1
  by_cases hf : n0 < 1 ∨ 48 < n0 ∨ cO n0 ≠ k
  ·have HD := iD (oO HL xj GP GN (by rw [HN]; exact hf))
   by_cases h48 : 1 ≤ n0 ∧ n0 ≤ 48
   ·have jk := iD (fun w => mO n0 oM w)
    have fR : ((cO n0 : Nat) : Int) != (k : Int) := by simp; omega
    rw [decide_eq_true (show 1 ≤ (n0 : Int) ∧ (n0 : Int) ≤ 48 by omega)] at oS
    generalize cO n0 = P at *
    clear hf h48
    go_wp2_with (fail)
    refine (oS _).mono ?_
    rintro e w1 ⟨rfl, rfl⟩
    go_wp2_with (fail)
    refine (jk _).mono ?_
    rintro e w1 ⟨rfl, rfl⟩
    go_wp2
    go_ret3
    rw [HD]
    exact .none rfl (Below.drewN bV _)
   rw [decide_eq_false (show ¬ (1 ≤ (n0 : Int) ∧ (n0 : Int) ≤ 48) by omega)] at oS
   clear hf h48
   go_wp2_with (fail)
   refine (oS _).mono ?_
   rintro e w1 ⟨rfl, rfl⟩
   go_wp2
   go_ret3
   rw [HD]
   exact .none rfl (Below.drewN bV _)
  have HD := iD (CO HL xj GP GN (by rw [HN]; exact hf))
  rw [ze] at HD
  have m1 : 1 ≤ n0 := oM
  have m48 : n0 ≤ 48 := oM
  have rO : cO n0 = k := oM
  have jk := iD (fun w => mO n0 oM w)
  rw [decide_eq_true (show 1 ≤ (n0 : Int) ∧ (n0 : Int) ≤ 48 by omega)] at oS
  rw [rO] at jk
  have uj := iD rO
  have fR : ((k : Int) != (k : Int)) = false := by simp
  obtain ⟨wq, RV⟩ := ex ((w.drewN q).drewN nq)
  have Bn : Hid (bW w wq) := by rw [← RV, World.drewN_drewN]; exact Below.drewN bV _
  rw [RV]
  clear hf rO RV
  go_wp2_with (fail)
  refine (oS _).mono ?_
  rintro e w1 ⟨rfl, rfl⟩
  go_wp2_with (fail)
  refine (jk _).mono ?_
  rintro e w1 ⟨rfl, rfl⟩
  obtain ⟨i3, vU, kE, jN, lh⟩ := info_parts mq
  go_wp2
  go_loopw [3, 53] (fun v i wr => ∃ j : Nat, j ≤ n0 ∧ i = .int .i64 j ∧ wr.ownsRow w.heap.size 3 1 v j (aw ((List.range j).map (lq ps))) ∧ bW w wr) (fun _ i _ => n0 - (intOf i).toNat)
  case atStart => exact ⟨0, Nat.zero_le _, rfl, World.ownsRow_nil _ _ _ _, Bn⟩
  case round =>
   obtain ⟨j, hj, rfl, hO, OG⟩ := hrel
   have HO := iD hO
   have Dl := iD OG
   clear hO OG
   by_cases hltj : j < n0
   ·have VQ : j / 6 < k := by have := uj.out; unfold cO at this; omega
    obtain ⟨p, hp⟩ := getElem?_of_lt (l := ps) (k := j / 6) (by rw [HN]; exact VQ)
    have Sl : p.length = 64 := oI (List.all_eq_true.1 xj p (List.mem_of_getElem? hp))
    obtain ⟨Ze, sI, Q, cc, eA, _, e2, p3, p4, r1⟩ := (HA.below Dl).get hp
    injection eA with eA
    injection eA with eA1 eA2
    subst eA1
    subst eA2
    rw [Sl] at e2 p3
    obtain ⟨g2, o2, rfl⟩ : ∃ g2 o2, Q = some ⟨g2, o2, none⟩ := by
     obtain ⟨x, hx⟩ := getElem?_of_lt (l := p) (k := 0) oM
     obtain ⟨b', o', e, _⟩ := r1.rd.mo hx
     exact ⟨b', o', e⟩
    obtain ⟨qq, kj⟩ := ex (8 + 8 * (j % 6))
    have aaK : qq + 8 ≤ 64 := oM
    have t1 : (j : Int) % 6 = ((j % 6 : Nat) : Int) := oM
    have t2 : (8 : Int) + 8 * ((j % 6 : Nat) : Int) = (qq : Int) := oM
    have t3 : (j : Int) / 6 = ((j / 6 : Nat) : Int) := oM
    have HV : Hid (zb (eN ((p.drop qq).take 8)) = lq ps j) := by rw [Hid, CK hp, kj]
    have MS := iD (vL (some ⟨g2, o2 + qq, none⟩) 8 (cc - qq) ((p.drop qq).take 8) wr (r1.rd.part qq 8) (by rw [List.length_take, List.length_drop, Sl]; omega) (gA (eh (HB p (List.mem_of_getElem? hp)) qq) 8) oM)
    obtain ⟨N, hN⟩ := ex (eN ((p.drop qq).take 8))
    rw [hN] at HV MS
    have t4 : ¬ (cc = qq) := oM
    unfold maxLen at p4
    generalize j / 6 = pi at *
    generalize j % 6 = pj at *
    clear hp Sl r1 hN kj
    go_wp2_with (fail)
    refine MS.mono ?_
    rintro e w2 ⟨rfl, rfl⟩
    have t5 : IntKind.i64.wrap N = lq ps j := HV
    go_wp2_with (at_builtin; refine wpList_append_own _ rfl _ _ 33 rfl w.heap.size 3 i3 (.int .i64 0) 1 8 underlying33 vU kE jN lh rfl oM _ _ _ rfl (aD HO (bV.alloc cV _)) ⟨wr.heap.size, 0, none⟩ 1 1 [.int .i64 (lq ps j)] rfl rfl (cell_one_new _ _ _) (by simp [Value.oneCell']) (by unfold maxLen; omega) oM (by have := Dl.size; simp; omega) ?_)
    intro v' w8 hown8 hgrow8 _
    have xY : Hid (w8.ownsRow w.heap.size 3 1 v' (j + 1) (aw ((List.range (j + 1)).map (lq ps)))) := by
     rw [Hid, nG, aw, List.map_append]
     exact hown8
    have kt : Hid (bW w w8) := (Dl.alloc Dl.size _).grown hgrow8 (by have := Dl.size; simp; omega) (fun k hk => (HO.lt k hk).1)
    clear hown8 hgrow8 t5
    go_wp2
    go_roundw
    case rel => exact ⟨j + 1, oM, by go_num, xY, kt⟩
    case measure => simp [intOf]; omega
   have Ba : j = n0 := oM
   subst Ba
   obtain ⟨A', c', rfl, h1, h2, hr⟩ := bL HO
   have HR := iD hr
   have HC := iD (And.intro h1 h2)
   have hF : ∀ b, (fun _ : Nat => False) b → b < wr.heap.size := fun b h => h.elim
   obtain ⟨bc, qO⟩ := ex ((List.range j).map (lq ps))
   have Ik : bc.length = j := by rw [← qO]; simp
   have Oe : ∀ x ∈ bc, dH x := by rw [← qO]; exact pz
   rw [qO] at HD HR HO
   have Pr := iD Ik
   clear h1 h2 hr qO
   by_cases he : fX s j = 0
   ·have HE := iD (GC (fun _ => False) s A' j c' bc wr hF HR Ik HC.1 HC.2 Oe he)
    rw [uj] at HE
    have ZA : Hid ((dS s bc).length = k) := by rw [Hid, fG, Pr]; exact uj
    have HEB : Hid (∀ p ∈ dS s bc, Bytes p) := fun p hp => (Ai (by rw [Pr]; omega) p hp).2
    clear hF Ik Oe
    go_wp2_with (fail)
    refine HE.mono ?_
    rintro e w3 ⟨A3, c3, rfl, h1, h2, Eu, gL⟩
    have PA := iD Eu
    have jd : Hid (bW w w3) := Dl.trans (gL.mono Dl.size)
    have rZ := iD (aD HO gL)
    have HQ := iD (ET A3 (some ⟨ba, off, none⟩) k k c3 c (dS s bc) ps w3 PA (HA.below jd) ZA HN HEB HB (by unfold maxLen; omega) (by unfold maxLen; omega))
    clear h1 h2 Eu gL
    by_cases hq : dS s bc = ps
    ·rw [decide_eq_true hq] at HQ
     have HF : Hid (ff ps = (s, bc, 0)) := by
      rw [Hid, HD, iN]
      rintro (h | h)
      ·exact h he
      exact h hq
     clear hq he
     go_wp2_with (fail)
     refine HQ.mono ?_
     rintro e w4 ⟨rfl, rfl⟩
     go_wp2
     go_ret3
     rw [HF]
     refine ⟨A', c', ?_, ?_, jd⟩
     ·simp only [Pr.out]; rfl
     simp only [Pr.out]; exact rZ
    rw [decide_eq_false hq] at HQ
    have HF : Hid (ff ps = (0, [], 2)) := by
     rw [Hid, HD, iP (.inr hq)]
    clear hq he
    go_wp2_with (fail)
    refine HQ.mono ?_
    rintro e w4 ⟨rfl, rfl⟩
    go_wp2
    go_ret3
    rw [HF]
    exact .none rfl jd
   have HE := iD (L4 s A' j c' wr oM he)
   have HF : Hid (ff ps = (0, [], 2)) := by
    rw [Hid, HD, iP (.inl he)]
   clear hF Ik Oe he
   go_wp2_with (fail)
   refine HE.mono ?_
   rintro e w3 ⟨rfl, rfl⟩
   go_wp2
   go_ret3
   rw [HF]
   exact .none rfl Dl
theorem kM (d : Nat) (w : World) : (binOp .eql 114 (.pointer (some ⟨d, 0, none⟩)) (.pointer none)).run prog w = .ok (.bool false) w := by kernel_rfl
theorem cn.par {l : List eB} (h : cn X w A (bK l)) {p : eB} (hp : l[k]? = some p) :
 ∃ b off, A = some ⟨b, off, none⟩ ∧ b < w.heap.size ∧ w.cell? ⟨b, off + k * 3, none⟩ = some (.int .i64 p.lo) ∧ w.cell? ⟨b, off + k * 3 + 1, none⟩ = some (.int .i64 p.hi) ∧ w.cell? ⟨b, off + k * 3 + 2, none⟩ = some (.int .i64 p.df) := by
 have g : ∀ j u, p.cells[j]? = some u → (bK l)[k * 3 + j]? = some u := fun j u hu => flat_get eB.cells 3 (fun _ => rfl) l k j p u hp hu
 obtain ⟨b, off, e, aW, _, hc⟩ := h (by
  intro e
  have := g 0 _ rfl
  rw [e] at this
  simp at this)
 exact ⟨b, off, e, aW, hc _ _ (g 0 _ rfl), hc _ _ (g 1 _ rfl), hc _ _ (g 2 _ rfl)⟩
section
variable {w0 w : World} {L : Lc} {S : Sc} {f : Fl} {s : St}
theorem Ga (h : bB w0 w L f) (q : Nat) : Calls prog 61 #[.pointer (some ⟨L.d, 0, none⟩)] (w.drewN q) fun e w' => e = .returned (.int .i64 (f.pg : Nat)) ∧ w' = w.drewN q :=
 (iq (h.drewN q)).mono fun _ _ ⟨a, b⟩ => ⟨a, b.symm⟩
theorem P3 (n : Nat) (hn : n < 1000000000000) (w : World) : Calls prog 114 #[.int .i64 (n : Int)] w fun e w' => e = .returned (.int .i64 (cO n : Nat)) ∧ w' = w :=
 (mO n hn w).mono fun _ _ ⟨a, b⟩ => ⟨a, b.symm⟩
theorem Bs (n lo hi : Int) (w : World) : Calls prog 105 #[.int .i64 n, .int .i64 lo, .int .i64 hi] w fun e w' => e = .returned (.bool (decide (lo ≤ n ∧ n ≤ hi))) ∧ w' = w :=
 (gn n lo hi w).mono fun _ _ ⟨a, b⟩ => ⟨a, b.symm⟩
theorem FV (gU : bB w0 w L f) (c0 : w.cell? ⟨D, 0, none⟩ = some (.pointer (some ⟨L.d, 0, none⟩))) (c3 : w.cell? ⟨D, 3, none⟩ = some (.slice A n c)) (n1 : 1 ≤ n) (n2 : n ≤ 48) :
 Calls prog 100 #[.pointer (some ⟨D, 0, none⟩)] w fun e w' => e = .returned (.int .i64 (f.pg / cO n : Nat)) ∧ ∃ q, w' = w.drewN q := by
 have H43 := iD (Ga gU)
 have Ny := iD (fun w => P3 n oM w)
 have hp := gU.ok.p2
 have xv := jZ n1
 have jG := jL n2
 generalize hk : cO n = k at *
 obtain ⟨T, Y1⟩ := ex (f.pg / k)
 rw [Y1]
 generalize f.pg = pg at *
 have hTl : T ≤ 16 := by rw [← Y1]; exact Nat.le_trans (Nat.div_le_self _ _) hp
 have t1 : Hid (wrap64 ((pg : Int) / (k : Int)) = (T : Int)) := by
  rw [Hid, show (pg : Int) / (k : Int) = (T : Int) by rw [← Y1]; push_cast; rfl]
  unfold wrap64
  omega
 have t2 : ((k : Int) == 0) = false := by simp; omega
 have t3 : ¬ (k = 0) := oM
 clear gU hk Y1
 go_enter func100, ntmps100
 go_wp2
 go_quiet ((first | (go_at_call 61; with_reducible exact Calls.quiet_of_same (H43.out _)) | (go_at_call 114; with_reducible exact Calls.quiet_of_same (Ny.out _))))
 go_wp2
 go_ret
 refine ⟨?_, _, rfl⟩
 show Ending.returned (Value.int .i64 (wrap64 ((pg : Int) / (k : Int)))) = _
 rw [t1]
theorem Hh (h : bM w0 w L S f s) (ho : bD f s) : Calls prog 100 #[.pointer (some ⟨S.D, 0, none⟩)] w fun e w' => e = .returned (.int .i64 (bm s f : Nat)) ∧ ∃ q, w' = w.drewN q :=
 FV h.fl (h.row 0 _ rfl) (h.row 3 _ rfl) ho.n1 ho.n2
theorem FU (gU : bB w0 w L f) {fi : Nat} (c0 : w.cell? ⟨D, 0, none⟩ = some (.pointer (some ⟨L.d, 0, none⟩))) (c1 : w.cell? ⟨D, 1, none⟩ = some (.int .i64 fi)) (c3 : w.cell? ⟨D, 3, none⟩ = some (.slice A n c)) (n1 : 1 ≤ n) (n2 : n ≤ 48) (hf : fi ≤ 64) 
 (bi ji : Int) (b j : Nat) (hb : bi = b) (hj : ji = j) (dZ : b < 1000) (JQ : j < 1000) :
 Calls prog 113 #[.pointer (some ⟨D, 0, none⟩), .int .i64 bi, .int .i64 ji] w fun e w' => e = .returned (.int .i64 ((fi + b) * f.pg + j * cO n : Nat)) ∧ ∃ q, w' = w.drewN q := by
 subst hb hj
 have H43 := iD (Ga gU)
 have Ny := iD (fun w => P3 n oM w)
 have hp := gU.ok.p2
 have xv := jZ n1
 have jG := jL n2
 generalize hk : cO n = k at *
 generalize f.pg = pg at *
 obtain ⟨u1, RZ⟩ := ex ((fi + b) * pg)
 obtain ⟨u2, RY⟩ := ex (j * k)
 have JP : u1 ≤ 100000 := by rw [← RZ]; have := Nat.mul_le_mul (show fi + b ≤ 1064 by omega) hp; omega
 have Ey : u2 ≤ 100000 := by rw [← RY]; have := Nat.mul_le_mul (show j ≤ 1000 by omega) jG; omega
 have t0 : IntKind.i64.wrap ((fi : Int) + (b : Int)) = (fi : Int) + (b : Int) := IntWalk.i64_in _ oM
 have t1 : IntKind.i64.wrap (((fi : Int) + (b : Int)) * (pg : Int)) = (u1 : Int) := by
  rw [show ((fi : Int) + (b : Int)) * (pg : Int) = (u1 : Int) by rw [← RZ]; push_cast; rfl]
  exact IntWalk.i64_in _ oM
 have t2 : IntKind.i64.wrap ((j : Int) * (k : Int)) = (u2 : Int) := by
  rw [show (j : Int) * (k : Int) = (u2 : Int) by rw [← RY]; push_cast; rfl]
  exact IntWalk.i64_in _ oM
 have t3 : IntKind.i64.wrap ((u1 : Int) + (u2 : Int)) = (u1 : Int) + (u2 : Int) := IntWalk.i64_in _ oM
 rw [RZ, RY]
 clear gU hk RZ RY
 go_enter func113, ntmps113
 go_wp2
 go_quiet ((first | (go_at_call 61; with_reducible exact Calls.quiet_of_same (H43.out _)) | (go_at_call 114; with_reducible exact Calls.quiet_of_same (Ny.out _))))
 go_wp2
 go_ret
 exact ⟨by go_num, _, rfl⟩
theorem sw (h : bM w0 w L S f s) (ho : bD f s) (bi ji : Int) (b j : Nat) (hb : bi = b) (hj : ji = j) (dZ : b < 1000) (JQ : j < 1000) :
 Calls prog 113 #[.pointer (some ⟨S.D, 0, none⟩), .int .i64 bi, .int .i64 ji] w fun e w' => e = .returned (.int .i64 (aG s f b j : Nat)) ∧ ∃ q, w' = w.drewN q :=
 FU h.fl (h.row 0 _ rfl) (h.row 1 _ rfl) (h.row 3 _ rfl) ho.n1 ho.n2 (by have := ho.fb; have := h.fl.ok.b2; omega) bi ji b j hb hj dZ JQ
theorem Hl (h : bM w0 w L S f s) (ho : bD f s) : Calls prog 107 #[.pointer (some ⟨S.D, 0, none⟩)] w fun e w' => ∃ v', e = .returned v' ∧ w'.ownsRow w.heap.size 3 1 v' s.ax.length (aw s.an) ∧ bW w w' := by
 have h1 := kM S.D
 have c4 := h.row 4 _ rfl
 have HC := iD (kS S.Av s.an.length S.cv w.heap.size s.an w h.sl.sv.rd cV rfl (by rw [ho.sl]; have := ho.n2; omega))
 rw [ho.sl] at HC c4
 clear h ho
 go_enter func107, ntmps107
 go_wp2_with (fail)
 refine HC.mono ?_
 rintro e w1 ⟨v', rfl, ho, hb⟩
 have HO := iD ho
 have HB := iD hb
 clear ho hb
 go_wp2
 go_ret
 exact ⟨v', rfl, HO, HB⟩
end
section
variable {w0 w : World} {L : Lc} {S : Sc} {f : Fl} {s : St}
theorem xK (l : List eB) : (bK l).length = l.length * 3 := lI eB.cells 3 (fun _ => rfl) l
def Jh (w0 w : World) (L : Lc) (S : Sc) (f : Fl) (s : St) (i v : Int) (e : Ending) (w' : World) : Prop :=
 e = .returned (fy (gf s i v)) ∧ bM w0 w' L S f (aV s i v) ∧ ah (bQ L S) w w'
theorem NS (h : bM w0 w L S f s) (ho : bD f s) (i v : Int) :
 Calls prog 66 #[.pointer (some ⟨S.D, 0, none⟩), .int .i64 i, .int .i64 v] w (Jh w0 w L S f s i v) := by
 have h1 := kM S.D
 have c3 := h.row 3 _ rfl
 have c5 := h.row 5 _ rfl
 have c9 := h.row 9 _ rfl
 have yQ := ho.n1
 have qS := ho.n2
 have hcg := h.cg
 unfold maxLen at hcg
 obtain ⟨ub, vV⟩ := hcg
 rw [ho.tl] at c5 ub
 have H := iD h
 by_cases hb : s.af = true
 ·have HE : Hid (gf s i v = 20) := by unfold gf; rw [Hid, iP hb]
  have HF : Hid (aV s i v = s) := by unfold aV; rw [Hid, HE, iN (by decide)]
  rw [hb] at c9
  clear h ho hb
  go_enter func66, ntmps66
  go_wp2
  go_ret
  unfold Jh
  rw [HE, HF]
  exact ⟨rfl, H, ah.refl _ _⟩
 have cU : s.af = false := by simpa using hb
 rw [cU] at c9
 have HW := iD (fun w => gn i 0 ((s.ax.length : Int) - 1) w)
 by_cases hi : 0 ≤ i ∧ i ≤ (s.ax.length : Int) - 1
 ·obtain ⟨j, rfl⟩ := Int.eq_ofNat_of_zero_le hi.1
  have hj : j < s.ax.length := oM
  obtain ⟨p, hp⟩ := getElem?_of_lt hj
  obtain ⟨b, off, hA, cB, e0, e1, e2⟩ := h.sl.sp.par hp
  have gC := h.sl.P2
  have je := h.sl.P1
  unfold maxLen at je
  rw [hA] at c3
  have Zj : Hid (∀ q, Calls prog 105 #[.int .i64 v, .int .i64 p.lo, .int .i64 p.hi] (w.drewN q) fun e w' => e = .returned (.bool (iy p v)) ∧ w' = w.drewN q) := fun q => Bs v p.lo p.hi (w.drewN q)
  rw [decide_eq_true hi] at HW
  have f0 : ∀ q, (w.drewN q).frozen? ⟨S.G, j, none⟩ = false := fun q => ((Below.drewN (Below.refl w.heap.size w) q).frozen (p := ⟨S.G, j, none⟩) h.gl.2).trans (h.sg.frozenAt j)
  obtain ⟨x, hx⟩ := getElem?_of_lt (l := s.aj) (k := j) (by rw [ho.tl]; omega)
  have d0 : w.cell? ⟨S.G, j, none⟩ = some (.int .i64 x) := by
   rw [h.sg.cellAt j (by rw [ho.tl]; omega)]
   simp [aw, hx]
  by_cases hv : iy p v = true
  ·have HE : Hid (gf s j v = 0) := by
    unfold gf
    rw [Hid, iN hb, iN oM, Int.toNat_natCast, hp, Option.getD_some, hv, iN (by decide)]
   have HF : Hid (aV s j v = { s with aj := s.aj.set j v }) := by unfold aV; rw [Hid, HE, iP rfl, Int.toNat_natCast]
   have eW : Hid (∀ q, bM w0 ((w.drewN q).setCell ⟨S.G, j, none⟩ (.int .i64 v)) L S f { s with aj := s.aj.set j v } ∧ ah (bQ L S) w ((w.drewN q).setCell ⟨S.G, j, none⟩ (.int .i64 v))) := fun q => by
    have hb := Below.drewN (Below.refl w.heap.size w) q
    obtain ⟨a1, a2⟩ := (H.ab hb).U8 j v
    exact ⟨a1, (ah.ak hb).trans a2⟩
   rw [hv] at Zj
   generalize s.ax.length = n at *
   clear h ho hb cU hi hp hA hx hv
   go_enter func66, ntmps66
   go_wp2_with (fail)
   refine (HW _).mono ?_
   rintro e w1 ⟨rfl, rfl⟩
   go_wp2
   go_quiet ((go_at_call 105; with_reducible exact Calls.quiet_of_same (Zj.out _)))
   go_wp2
   go_ret
   unfold Jh
   rw [HE, HF]
   exact ⟨rfl, (eW _).1, (eW _).2⟩
  have Oh : iy p v = false := by simpa using hv
  have HE : Hid (gf s j v = 3) := by
   unfold gf
   rw [Hid, iN hb, iN oM, Int.toNat_natCast, hp, Option.getD_some, Oh, iP rfl]
  have HF : Hid (aV s j v = s) := by unfold aV; rw [Hid, HE, iN (by decide)]
  rw [Oh] at Zj
  generalize s.ax.length = n at *
  clear h ho hb cU hi hp hA hx hv Oh f0 d0
  go_enter func66, ntmps66
  go_wp2_with (fail)
  refine (HW _).mono ?_
  rintro e w1 ⟨rfl, rfl⟩
  go_wp2
  go_quiet ((go_at_call 105; with_reducible exact Calls.quiet_of_same (Zj.out _)))
  go_wp2
  go_ret
  unfold Jh
  rw [HE, HF]
  exact ⟨rfl, H.ab (Below.drewN bV _), ah.ak (Below.drewN bV _)⟩
 have HE : Hid (gf s i v = 10) := by
  unfold gf
  rw [Hid, iN hb, iP oM]
 have HF : Hid (aV s i v = s) := by unfold aV; rw [Hid, HE, iN (by decide)]
 rw [decide_eq_false hi] at HW
 generalize s.ax.length = n at *
 clear h ho hb cU hi
 go_enter func66, ntmps66
 go_wp2_with (fail)
 refine (HW _).mono ?_
 rintro e w1 ⟨rfl, rfl⟩
 go_wp2
 go_ret
 unfold Jh
 rw [HE, HF]
 exact ⟨rfl, H, ah.refl _ _⟩
end
theorem Vk (x : Int) (w : World) : Calls prog 130 #[.int .u8 x] w fun e w' => e = .returned (.bool (x != 255)) ∧ w = w' := by
 go_enter func130, ntmps130
 go_wp2
 go_ret
 exact ⟨rfl, rfl⟩
theorem Oc (A : Option Addr) (n c : Nat) (b : List Int) (w : World) (hA : Rd w w.heap.size A (ag .u8 b)) (hn : b.length = n) (qS : n ≤ 1000000) :
 Calls prog 131 #[.slice A n c, .func (.func 130) #[] #[]] w fun e w' => (∃ r : Int, e = .returned (.int .i64 r) ∧ decide (0 ≤ r) = !ch b) ∧ w = w' := by
 have HA := iD hA
 have HN := iD hn
 clear hA hn
 go_enter func131, ntmps131
 go_wp2
 go_loopw [8] (fun i wr => ∃ k : Nat, k ≤ n ∧ i = .int .i64 k ∧ ch (b.take k) = true ∧ w = wr) (fun i _ => n - (intOf i).toNat)
 case atStart => exact ⟨0, Nat.zero_le _, rfl, rfl, rfl⟩
 case round =>
  obtain ⟨k, hk, rfl, ht, rfl⟩ := hrel
  have HT := iD ht
  clear ht
  by_cases aW : k < n
  ·obtain ⟨x, hx⟩ := getElem?_of_lt (l := b) (k := k) (by rw [HN]; exact aW)
   obtain ⟨ba, off, rfl, _, e0⟩ := HA.mo hx
   have HX := iD hx
   have H1 := iD (fun w => Vk x w)
   clear hx
   by_cases he : x = 255
   ·have HS := iD (lJ HX HT he)
    rw [show (x != 255) = false by simpa using he] at H1
    clear he
    go_wp2_with (fail)
    refine (H1 _).mono ?_
    rintro e w1 ⟨rfl, rfl⟩
    go_wp2
    go_roundw
    case rel => exact ⟨k + 1, oM, by go_num, HS, by first | rfl | trivial⟩
    case measure => simp [intOf]; omega
   have HS := iD (oQ HX he)
   rw [show (x != 255) = true by simpa using he] at H1
   clear he
   go_wp2_with (fail)
   refine (H1 _).mono ?_
   rintro e w1 ⟨rfl, rfl⟩
   go_wp2
   go_ret
   refine ⟨⟨k, rfl, ?_⟩, rfl⟩
   rw [HS, decide_eq_true oM]
   rfl
  have kg : k = n := oM
  subst kg
  have HS : Hid (ch b = true) := by
   have := HT.out
   rwa [List.take_of_length_le (by rw [HN]; exact Nat.le_refl _)] at this
  go_wp2
  go_ret
  refine ⟨⟨-1, rfl, ?_⟩, rfl⟩
  rw [HS]
  rfl
theorem Al (A : Option Addr) (n c : Nat) (b : List Int) (w : World) (hA : Rd w w.heap.size A (ag .u8 b)) (hn : b.length = n) (qS : n ≤ 1000000) :
 Calls prog 129 #[.slice A n c, .func (.func 130) #[] #[]] w fun e w' => e = .returned (.bool (!ch b)) ∧ w = w' := by
 have HI := iD (Oc A n c b w hA hn qS)
 clear hA hn
 go_enter func129, ntmps129
 go_wp2_with (fail)
 refine HI.mono ?_
 rintro e w1 ⟨⟨r, rfl, hr⟩, rfl⟩
 have HR := iD hr
 clear hr
 go_wp2
 go_ret
 refine ⟨?_, rfl⟩
 rw [← HR]
 rfl
theorem ug (f : Fl) (a k : Nat) : cG f a (k + 1) = (cG f a k && ch (aB f (a + k))) := by
 unfold cG
 rw [List.range_succ, List.all_append]
 simp
theorem CW (hk : k < n) (h : ch (aB f (a + k)) = false) : cG f a n = false := by
 unfold cG
 rw [List.all_eq_false]
 exact ⟨k, List.mem_range.2 hk, by rw [h]; decide⟩
theorem qG (hd : f.aF = false) (ha : a < f.aq.length * f.pg) : ft f (a : Int) = (aB f a, 0) := by
 have : lZ f (a : Int) = 0 := by
  unfold lZ
  rw [hd, iN (by decide), iN oM]
 unfold ft
 rw [iN oM, Int.toNat_natCast]
theorem kn (h : f.ok) (ha : a < f.aq.length * f.pg) : (aB f a).length = 64 := by
 unfold aB
 rw [List.length_take, List.length_drop, h.len]
 omega
theorem tR (h : f.ok) (a : Nat) : Bytes (aB f a) := gA (eh h.wQ _) _
theorem gy (h : f.ok) : f.aq.length * f.pg ≤ 1024 := Nat.mul_le_mul h.b2 h.p2
section
variable {w0 w : World} {L : Lc} {S : Sc} {f : Fl} {s : St}
theorem yZ (h : bM w0 w L S f s) (hd : f.aF = false) (ai ni : Int) (a n : Nat) (ha : ai = a) (hn : ni = n) (han : a + n ≤ f.aq.length * f.pg) :
 Calls prog 126 #[.pointer (some ⟨S.D, 0, none⟩), .int .i64 ai, .int .i64 ni] w fun e w' => e = .returned (.bool (cG f a n)) ∧ bW w w' := by
 subst ha hn
 have g1 := ne_nil
 have hm := gy h.fl.ok
 have H := iD h
 have HAN := iD han
 have HD := iD hd
 have aci : a + n ≤ 1024 := oM
 clear h han hd hm
 go_enter func126, ntmps126
 go_wp2
 go_loopw [11] (fun i wr => ∃ k : Nat, k ≤ n ∧ i = .int .i64 k ∧ cG f a k = true ∧ bW w wr) (fun i _ => n - (intOf i).toNat)
 case atStart => exact ⟨0, Nat.zero_le _, rfl, rfl, Below.refl _ _⟩
 case round =>
  obtain ⟨k, hk, rfl, ht, hb⟩ := hrel
  have HT := iD ht
  have HB := iD hb
  clear ht hb
  by_cases aW : k < n
  ·have HS := iD (H.ab HB)
   have c0 := HS.row 0 _ rfl
   have ny : a + k < f.aq.length * f.pg := by have := HAN.out; omega
   have HR := iD (vD HS.fl ((a : Int) + (k : Int)))
   rw [show (a : Int) + (k : Int) = ((a + k : Nat) : Int) by push_cast; rfl, qG HD ny] at HR
   have hl := kn H.fl.ok ny
   have FC := iD hl
   obtain ⟨p, hp⟩ := ex (aB f (a + k))
   have HP := iD hp
   rw [hp] at HR FC
   simp only [FC.out] at HR
   rw [show ((a + k : Nat) : Int) = (a : Int) + (k : Int) by push_cast; rfl] at HR
   clear ny hl hp
   go_wp2_with (fail)
   refine HR.mono ?_
   rintro e w1 ⟨v', rfl, ho, hb⟩
   obtain ⟨A, c, rfl, _, _, hr⟩ := bL ho
   have HC := iD (Al A 64 c p w1 hr FC oM)
   have zm : Hid (bW w w1) := HB.trans (hb.mono HB.size)
   clear ho hr hb c0
   by_cases cB : ch p = true
   ·have HN : Hid (cG f a (k + 1) = true) := by rw [Hid, ug, HT, HP, cB]; rfl
    rw [cB] at HC
    clear cB
    rw [bG]
    go_wp2_with (fail)
    refine HC.mono ?_
    rintro e w2 ⟨rfl, rfl⟩
    go_wp2
    go_roundw
    case rel => exact ⟨k + 1, oM, by go_num, HN, zm⟩
    case measure => simp [intOf]; omega
   have EC : ch p = false := by simpa using cB
   have HN : Hid (cG f a n = false) := CW aW (by rw [HP]; exact EC)
   rw [EC] at HC
   clear cB EC
   rw [bG]
   go_wp2_with (fail)
   refine HC.mono ?_
   rintro e w2 ⟨rfl, rfl⟩
   go_wp2
   go_ret
   rw [HN]
   exact ⟨rfl, zm⟩
  have kg : k = n := oM
  subst kg
  go_wp2
  go_ret
  rw [HT]
  exact ⟨rfl, HB⟩
end
end Go.Proofs.YtjdknddnanopaaaGreat
