/-
  Part 8 of the proof.
-/
import Derived.OrdersHeld
import Derived.Laws.ResultCell
import Derived.Deep.CutBlock
import Derived.Deep.RegionHeld
import Derived.Test.YtjdknddnanopaaaGreatR6
namespace Go.Proofs.YtjdknddnanopaaaGreat
open Go.RowKit Tryz
set_option maxRecDepth 100000
set_option maxHeartbeats 16000000
set_option linter.all false
variable {f g : Fl} {W W' w w' : World} {s s' s0 : St} {B P T a b base c d e i j k m n size : Nat} {v v' : Value} {A : Option Addr} {vs : List Value} {X Y : Nat → Prop} {gf q x y : Int} {p bc : List Int} {o : Obj} {ps : List (List Int)} {sp : List eB}
theorem nm : (∀ (a : Go.Act) (d : Tmp) (v : Value), Act.put a (some d) v = { a with tmps := a.tmps.setIfInBounds d v }) ∧ (∀ (a : Go.Act) (v : Value), Act.put a none v = a) ∧
 (∀ (α : Type) (l : List α) (i : Nat) (x : α), l.toArray.setIfInBounds i x = (l.set i x).toArray) ∧ (∀ (α : Type) (l : List α) (y x : α), (y :: l).set 0 x = x :: l) ∧ (∀ (α : Type) (l : List α) (i : Nat) (y x : α), (y :: l).set (i + 1) x = y :: l.set i x) :=
 ⟨fun _ _ _ => rfl, fun _ _ => rfl, fun _ _ _ _ => List.setIfInBounds_toArray .., fun _ _ _ _ => rfl, fun _ _ _ _ _ => rfl⟩
section
variable {P : Program} {md : Region.Mode} {ops : Array Oper} {Q : Exit → Go.Act → World → Prop} {S : World → Prop} {fuel : Nat} {ax : Array Bool} {a a' : Go.Act} {w : World} {oi : Oper}
def Pz (P : Program) (md : Region.Mode) (ops : Array Oper) (Q : Exit → Go.Act → World → Prop) (ax : Array Bool) (a : Go.Act) (i d : Nat) (v : Value) (a' : Go.Act) : Prop :=
 ∃ oi, ops[i]? = some oi ∧ Region.noSelect ops = true ∧ Region.free md ops ax i = true ∧ (Region.ready md ops ax).contains i = true ∧ oi.dst = some d ∧ Region.wanted oi (yielded ops a.tmps) = true ∧ (∀ w, (execOp a.eval oi).run P w = .ok (.value v) w) ∧ a.put (some d) v = a' ∧ ∀ c a w, Q (.panic c) (a.put (some d) v) w → Q (.panic c) a w
theorem Nd (hi : ops[i]? = some oi := by exact rfl) (hs : Region.noSelect ops = true := by kernel_rfl) (hf : Region.free md ops ax i = true := by kernel_rfl) (hr : (Region.ready md ops ax).contains i = true := by kernel_rfl) (hd : oi.dst = some d := by exact rfl) (hw : Region.wanted oi (yielded ops a.tmps) = true := by exact rfl) (he : ∀ w, (execOp a.eval oi).run P w = .ok (.value (v)) w := by intro _; first | rfl | go_simp) (ha : a.put (some d) (v) = a' := by (simp only [nm]; rfl)) (hQ : ∀ c a w, Q (.panic c) (a.put (some d) (v)) w → Q (.panic c) a w := by exact fun _ _ _ h => h) : Pz P md ops Q ax a i d v a' := ⟨oi, hi, hs, hf, hr, hd, hw, he, ha, hQ⟩
theorem tV (i : Nat) (v : Value) (hS : S w) (h : wpAnyH P md ops Q S fuel (ax.setIfInBounds i true) a' w) (k : Pz P md ops Q ax a i d v a' := by exact Nd) : wpAnyH P md ops Q S (fuel + 1) ax a w := by
 obtain ⟨oi, hi, hs, hf, hr, hd, hw, he, ha, hQ⟩ := k
 exact wpAnyH_take hi hs hf hr (by rw [hd]; exact hQ) (.inl ⟨hw, fun w _ => he w⟩) hS (by rw [hd, ha]; exact h)
theorem tL (i : Nat) (v : Value) (hi : ops[i]? = some oi) (hy : YieldsIf P ops S oi v a) (hS : S w) (h : wpAnyH P md ops Q S fuel (ax.setIfInBounds i true) a' w) (hs : Region.noSelect ops = true := by kernel_rfl) (hf : Region.free md ops ax i = true := by kernel_rfl) (hr : (Region.ready md ops ax).contains i = true := by kernel_rfl) (hd : oi.dst = some d := by exact rfl) (ha : a.put (some d) (v) = a' := by (simp only [nm]; rfl)) (hQ : ∀ c a w, Q (.panic c) (a.put (some d) (v)) w → Q (.panic c) a w := by exact fun _ _ _ h => h) : wpAnyH P md ops Q S (fuel + 1) ax a w :=
 wpAnyH_take hi hs hf hr (by rw [hd]; exact hQ) hy hS (by rw [hd, ha]; exact h)
theorem tG (i : Nat) (v : Value) (hS : S w) (h : wpAnyH P md ops Q S fuel (ax.setIfInBounds i true) a' w) (hi : ops[i]? = some oi := by exact rfl) (hs : Region.noSelect ops = true := by kernel_rfl) (hf : Region.free md ops ax i = true := by kernel_rfl) (hr : (Region.ready md ops ax).contains i = true := by kernel_rfl) (hd : oi.dst = some d := by exact rfl) (hw : Region.wanted oi (yielded ops a.tmps) = true := by exact rfl) (he : ∀ w, S w → (execOp a.eval oi).run P w = .ok (.value v) w := by (rintro w' ⟨h1, h2, h3⟩; go_simp)) (ha : a.put (some d) (v) = a' := by (simp only [nm]; rfl)) (hQ : ∀ c a w, Q (.panic c) (a.put (some d) (v)) w → Q (.panic c) a w := by exact fun _ _ _ h => h) : wpAnyH P md ops Q S (fuel + 1) ax a w :=
 wpAnyH_take hi hs hf hr (by rw [hd]; exact hQ) (.inl ⟨hw, he⟩) hS (by rw [hd, ha]; exact h)
theorem wD (h : Q .normal a w) (hr : Region.ready md ops ax = [] := by kernel_rfl) : wpAnyH P md ops Q S fuel ax a w := wpAnyH_done hr h _
theorem rW {d' : Option Tmp} {T : Prop} (hS : T) (h : wpAnyH P md ops Q S fuel ax a' w) (hd : d' = some d := by exact rfl) (ha : a.put (some d) (v) = a' := by (simp only [nm]; rfl)) : ∃ v', Ending.returned v = .returned v' ∧ T ∧ wpAnyH P md ops Q S fuel ax (a.put d' v') w := by
 subst hd ha
 exact ⟨v, rfl, hS, h⟩
end
abbrev Bi : Array Value := #[.slice none 0 0, .int .i64 0, .slice none 0 0, .bool false, .int .i64 0, .slice none 0 0]
abbrev qB : Array Value := #[.int .i64 0, .int .i64 0, .slice none 0 0, .slice none 0 0, .slice none 0 0, .int .i64 0, .int .i64 0, .int .i64 0, .slice none 0 0, .slice none 0 0, .int .i64 0, .int .i64 0, .int .i64 0, .int .i64 0, .bool false]
abbrev pq (x : Rc) (g : Fl) (e : Bool) : Array Value := #[.slice x.A g.img.length x.c, .int .i64 g.pg, .slice x.B g.ar.length x.d, .bool e, .int .i64 g.be, .slice x.P g.az.length x.r]
abbrev aX (x : Rc) (g : Fl) : Array Value := #[.slice x.A g.img.length x.c, .int .i64 g.pg, .slice x.B g.ar.length x.d, .bool g.aF, .int .i64 g.be, .slice x.P g.az.length x.r]
def JH (x : Int) : Nat → Int
 | 0 => 0
 | j + 1 => JH x j + (if x / 2 ^ j % 2 = 0 then 1 else 0)
theorem NJ : ∀ n : Fin 256, JH n.val 8 = uj n.val := by decide +kernel
theorem Vb (h : 0 ≤ x ∧ x < 256) : JH x 8 = uj x := by
 have := NJ ⟨x.toNat, oM⟩
 rw [show ((⟨x.toNat, oM⟩ : Fin 256).val : Int) = x by simp; omega] at this
 exact this
theorem Mz : ∀ n : Fin 256, bits .and .u8 (n.val : Int) 1 = (n.val : Int) % 2 := by decide +kernel
theorem Ps (h : 0 ≤ x ∧ x < 256) : bits .and .u8 x 1 = x % 2 := by
 have := Mz ⟨x.toNat, oM⟩
 rw [show ((⟨x.toNat, oM⟩ : Fin 256).val : Int) = x by simp; omega] at this
 exact this
theorem G9 (x : Int) (j : Nat) : 0 ≤ JH x j ∧ JH x j ≤ j := by
 induction j with
 | zero => unfold JH; omega
 | succ j ih =>
  unfold JH
  split <;> omega
theorem FR (A : Option Addr) (n c : Nat) (b : List Int) (w : World) (hA : Rd w w.heap.size A (ag .u8 b)) (hn : b.length = n) (hb : Bytes b) (qY : n ≤ 1000000) :
 Calls prog 122 #[.slice A n c] w fun e w' => e = .returned (.int .i64 (cr b)) ∧ w = w' := by
 have HA := iD hA
 have HN := iD hn
 have HB := iD hb
 clear hA hn hb
 go_enter func122, ntmps122
 go_wp2
 go_loopw [3, 9] (fun z i wr => ∃ k : Nat, k ≤ n ∧ i = .int .i64 k ∧ z = .int .i64 (cr (b.take k)) ∧ w = wr) (fun _ i _ => n - (intOf i).toNat)
 case atStart => exact ⟨0, oM, rfl, by simp [cr], rfl⟩
 case round =>
  obtain ⟨k, hk, rfl, rfl, rfl⟩ := hrel
  by_cases aY : k < n
  ·obtain ⟨x, hx⟩ := getElem?_of_lt (l := b) (k := k) (by rw [HN]; exact aY)
   have qF := HB x (List.mem_of_getElem? hx)
   obtain ⟨ba, off, rfl, _, c0⟩ := HA.mq hx
   have HT : Hid (cr (b.take (k + 1)) = cr (b.take k) + JH x 8) := by rw [Hid, bA b k x hx, pR, Vb qF]
   have hz := gj (b.take k)
   rw [List.length_take, HN] at hz
   generalize cr (b.take k) = Z at *
   have HXB := iD qF
   clear hx qF
   go_wp2
   go_loopw [3, 13] (fun z i wr => ∃ j : Nat, j ≤ 8 ∧ i = .int .i64 j ∧ z = .int .i64 (Z + JH x j) ∧ w = wr) (fun _ i _ => 8 - (intOf i).toNat)
   case atStart => exact ⟨0, oM, rfl, by unfold JH; simp, rfl⟩
   case round =>
    obtain ⟨j, hj, rfl, rfl, rfl⟩ := hrel
    by_cases hltj : j < 8
    ·have hs : JH x (j + 1) = JH x j + (if x / 2 ^ j % 2 = 0 then 1 else 0) := rfl
     have hr := G9 x j
     obtain ⟨x0, x1⟩ := HXB
     have y0 : 0 ≤ x / 2 ^ j := Int.ediv_nonneg x0 (Int.pow_nonneg oM)
     have y1 : x / 2 ^ j < 256 := Int.lt_of_le_of_lt (Int.ediv_le_self _ x0) x1
     have ha := Ps ⟨y0, y1⟩
     by_cases hb : x / 2 ^ j % 2 = 0
     ·rw [iP hb] at hs
      rw [hb] at ha
      have HS := iD hs
      clear hs hb y0 y1
      go_wp2
      go_roundw
      case rel => exact ⟨j + 1, oM, by go_num, by rw [HS, Int.add_assoc], by first | rfl | trivial⟩
      case measure => simp [intOf]; omega
     have dC : x / 2 ^ j % 2 = 1 := oM
     rw [iN hb, Int.add_zero] at hs
     rw [dC] at ha
     have HS := iD hs
     clear hs hb dC y0 y1
     go_wp2
     go_roundw
     case rel => exact ⟨j + 1, oM, by go_num, by rw [HS], by first | rfl | trivial⟩
     case measure => simp [intOf]; omega
    obtain rfl : j = 8 := oM
    go_wp2
    go_roundw
    case rel => exact ⟨k + 1, oM, by go_num, by rw [HT], by first | rfl | trivial⟩
    case measure => simp [intOf]; omega
  have kE : k = n := oM
  subst kE
  have e : b.take k = b := by rw [← HN]; exact List.take_length
  rw [e]
  go_wp2
  go_ret
  exact ⟨rfl, rfl⟩
theorem oF (n : Nat) (hn : n < 1000000000000) (w : World) : Calls prog 80 #[.int .i64 (n : Int)] w fun e w' => e = .returned (.int .i64 (cN n : Nat)) ∧ w = w' := by
 have h1 : ((n : Int) + 5).tdiv 6 = ((cN n : Nat) : Int) := by
  rw [Int.tdiv_eq_ediv_of_nonneg oM]
  unfold cN
  omega
 have h2 : ((n : Int) + 5) / 6 = ((cN n : Nat) : Int) := by unfold cN; omega
 have h3 : cN n ≤ 1000000000000 := by unfold cN; omega
 generalize cN n = P at *
 go_enter func80, ntmps80
 go_wp2
 go_ret
 exact ⟨rfl, rfl⟩
theorem Cc (A : Option Addr) (n c : Nat) (b : List Int) (w : World) (hA : Rd w w.heap.size A (ag .u8 b)) (hn : b.length = n) (hb : Bytes b) (qY : n ≤ 1000000) :
 Calls prog 110 #[.slice A n c] w fun e w' => e = .returned (.int .i64 (ze (eN b))) ∧ w = w' := by
 have HA := iD hA
 have HN := iD hn
 have HB := iD hb
 clear hA hn hb
 go_enter func110, ntmps110
 go_wp2
 go_loopw [3, 8] (fun z i wr => ∃ k : Nat, k ≤ n ∧ i = .int .i64 k ∧ z = .int .u64 (eN (b.take k)) ∧ w = wr) (fun _ i _ => n - (intOf i).toNat)
 case atStart => exact ⟨0, oM, rfl, by simp [eN], rfl⟩
 case round =>
  obtain ⟨k, hk, rfl, rfl, rfl⟩ := hrel
  by_cases aY : k < n
  ·obtain ⟨x, hx⟩ := getElem?_of_lt (l := b) (k := k) (by rw [HN]; exact aY)
   have qF := HB x (List.mem_of_getElem? hx)
   obtain ⟨ba, off, rfl, _, c0⟩ := HA.mq hx
   have HT : Hid (eN (b.take (k + 1)) = (eN (b.take k) * 256 + x) % 18446744073709551616) := by rw [Hid, bA b k x hx, qS]
   have hz := yJ (b.take k)
   generalize eN (b.take k) = Z at *
   have q1 := qF.1
   have q2 := qF.2
   clear hx qF
   go_wp2
   go_roundw
   case rel => exact ⟨k + 1, oM, by go_num, by rw [HT, IntKind.wrap_u64, IntKind.wrap_u64]; congr 1; omega, by first | rfl | trivial⟩
   case measure => simp [intOf]; omega
  have kE : k = n := oM
  subst kE
  have e : b.take k = b := by rw [← HN]; exact List.take_length
  rw [e]
  have E2 : Hid (ze (eN b) = wrap64 (eN b)) := by unfold ze; rw [Hid, IntKind.wrap_i64]; unfold wrap64; rfl
  go_wp2
  go_ret
  exact ⟨by rw [E2]; rfl, rfl⟩
theorem If {b : List Int} (hx : 0 ≤ x ∧ x < 256) (hy : 0 ≤ y ∧ y < 256) (h : b = [x, y]) : eN b = x * 256 + y := by
 subst h
 show ((0 * 256 + x) % 18446744073709551616 * 256 + y) % 18446744073709551616 = _
 omega
theorem Tg (A : Option Addr) (n c : Nat) (b : List Int) (w : World) (hA : Rd w w.heap.size A (ag .u8 b)) (hn : b.length = n) (qm : n ≤ c) (fQ : c ≤ maxLen) (hb : Bytes b) :
 Calls prog 109 #[.slice A n c] w fun e w' => e = .returned (.bool (dw b)) ∧ ∃ q, w' = w.drewN q := by
 unfold maxLen at fQ
 by_cases EN : n = 64
 ·subst EN
  have HG := iD (CE hn)
  obtain ⟨x, hx⟩ := getElem?_of_lt (l := b) (k := 62) oM
  obtain ⟨y, hy⟩ := getElem?_of_lt (l := b) (k := 63) oM
  have qF := hb x (List.mem_of_getElem? hx)
  have VB := hb y (List.mem_of_getElem? hy)
  have hd : b.drop 62 = [x, y] := by
   rw [gP b 62 x hx, gP b 63 y hy, List.drop_of_length_le oM]
  have HNU := iD (If qF VB hd)
  obtain ⟨ba, off, rfl, _, e0⟩ := hA.mq hx
  obtain ⟨Ze, uq, e', _, e1⟩ := hA.mq hy
  injection e' with e'
  injection e' with e2 e3 _
  subst e2 e3
  have r2 : Rd w w.heap.size (some ⟨ba, off, none⟩) (ag .u8 (b.take 62)) := by
   have := hA.part 0 62
   rw [List.drop_zero] at this
   exact this
  have H86 : Hid (∀ q, Calls prog 122 #[.slice (some ⟨ba, off, none⟩) 62 c] (w.drewN q) fun e w' => e = .returned (.int .i64 (cr (b.take 62))) ∧ w' = w.drewN q) :=
   fun q => (FR _ 62 c _ _ (r2.drew cV q) (by rw [List.length_take, hn]; rfl) (fun x hx => hb x (List.mem_of_mem_take hx)) oM).mono fun _ _ h => ⟨h.1, h.2.symm⟩
  have hz := gj (b.take 62)
  rw [List.length_take, hn] at hz
  obtain ⟨z1, z2⟩ := hz
  generalize cr (b.take 62) = Z at *
  have z3 : Z < 1000 := oM
  have t1 : IntKind.i64.wrap (x * 256) = x * 256 := bf _ oM oM
  have t2 : IntKind.i64.wrap (x * 256 + y) = x * 256 + y := bf _ oM oM
  obtain ⟨x0, x1⟩ := qF
  obtain ⟨y0, y1⟩ := VB
  have q9 : (62 : Int) ≤ (c : Int) := oM
  clear hA hn hb r2 z2 hx hy hd
  go_enter func109, ntmps109
  go_wp2
  go_quiet ((go_at_call 122; with_reducible exact Calls.quiet_of_same (H86.out _)))
  go_wp2
  go_ret
  exact ⟨by rw [HG, HNU]; rfl, _, rfl⟩
 have HG := iD (CD (b := b) oM)
 have d : ((n : Int) == 64) = false := by simp; omega
 clear hA hn hb EN
 go_enter func109, ntmps109
 go_wp2
 go_quiet (fail)
 go_wp2
 go_ret
 exact ⟨by rw [HG]; rfl, _, rfl⟩
theorem KD (n : Int) (m : Nat) (w : World) (h1 : 1 ≤ m) (h8 : m ≤ 8) :
 Calls prog 127 #[.int .i64 n, .int .i64 (m : Int)] w fun e w' => ∃ v, e = .returned v ∧ w'.ownsRow w.heap.size 5 1 v m (ag .u8 (eM (lZ n) m)) ∧ bW w w' := by
 obtain ⟨i5, rS, jd, jc, jb⟩ := info_parts kz
 have hU := oV n
 have HU : Hid (lZ n = IntKind.u64.wrap n) := rfl
 go_enter func127, ntmps127
 go_wp2
 go_loopw [5, 6] (fun v i wr => ((∃ d : Nat, d < m ∧ i = .int .i64 (d : Int) ∧ wr.ownsRow w.heap.size 5 1 v (m - 1 - d) (ag .u8 ((eM (lZ n) m).take (m - 1 - d)))) ∨ (i = .int .i64 (-1) ∧ wr.ownsRow w.heap.size 5 1 v m (ag .u8 (eM (lZ n) m)))) ∧ bW w wr) (fun _ i _ => (intOf i + 1).toNat)
 case atStart => exact ⟨.inl ⟨m - 1, oM, by congr 1; omega, by rw [show m - 1 - (m - 1) = 0 by omega, List.take_zero]; exact World.ownsRow_nil _ _ _ _⟩, Below.refl _ _⟩
 case round =>
  obtain ⟨hc, hB⟩ := hrel
  have HB := iD hB
  clear hB
  rcases hc with ⟨d, hd, rfl, hO⟩ | ⟨rfl, hO⟩
  ·have HO := iD hO
   have HT : Hid ((eM (lZ n) m).take (m - 1 - d + 1) = (eM (lZ n) m).take (m - 1 - d) ++ [lZ n / 256 ^ d % 256]) := by
    have := bA (eM (lZ n) m) (m - 1 - d) _ (BQ (lZ n) m (m - 1 - d) oM)
    rw [Hid, this, show m - 1 - (m - 1 - d) = d by omega]
   obtain ⟨y, hy⟩ := ex (lZ n / 256 ^ d % 256)
   rw [hy] at HT
   have HE : Hid (∀ k : Nat, k = 8 * d → lZ n / 2 ^ k % 256 = y) := by
    intro k hk
    subst hk
    rw [Gc]
    exact hy
   have HY : Hid (IntKind.u64.wrap n / 2 ^ (8 * d) % 256 = y) := HE (8 * d) rfl
   clear hO hy
   go_wp2_with (at_builtin; refine wpList_append_own _ rfl _ _ 32 rfl w.heap.size 5 i5 (.int .u8 0) 1 1 underlying32 rS jd jc jb rfl oM _ _ _ rfl (aC HO (bV.alloc cV _)) ⟨wr.heap.size, 0, none⟩ 1 1 [.int .u8 (IntKind.u64.wrap n / 2 ^ (8 * d) % 256)] rfl rfl (cell_one_new _ _ _) (by simp [Value.oneCell']) (by unfold maxLen; omega) oM (by have := HB.size; simp; omega) ?_)
   intro v' w8 hown8 hgrow8 _
   have ya : Hid (w8.ownsRow w.heap.size 5 1 v' (m - 1 - d + 1) (ag .u8 ((eM (lZ n) m).take (m - 1 - d + 1)))) := by
    rw [Hid, HT, ← HY, dp]
    exact hown8
   have kq : Hid (bW w w8) := (HB.alloc HB.size _).grown hgrow8 (by have := HB.size; simp; omega) (fun k hk => (HO.lt k hk).1)
   clear hown8 hgrow8
   by_cases YX : d = 0
   ·subst YX
    go_wp2
    go_roundw
    case rel => exact ⟨.inr ⟨by go_num, by
     have := ya.out
     rw [show m - 1 - 0 + 1 = m by omega, List.take_of_length_le (by rw [cJ]; exact Nat.le_refl _)] at this
     exact this⟩, kq⟩
    case measure => simp [intOf]
   obtain ⟨d', rfl⟩ : ∃ d', d = d' + 1 := ⟨d - 1, oM⟩
   go_wp2
   go_roundw
   case rel => exact ⟨.inl ⟨d', oM, by go_num, by
    have := ya.out
    rw [show m - 1 - (d' + 1) + 1 = m - 1 - d' by omega] at this
    exact this⟩, kq⟩
   case measure => simp [intOf]; omega
  have HO := iD hO
  clear hO
  go_wp2
  go_ret
  exact ⟨_, rfl, HO, HB⟩
def lH (seq : Int) (bc : List Int) (k i : Nat) : List Int := pL seq bc.length k ++ (List.range i).flatMap (kZ bc k)
theorem wm (seq : Int) (bc : List Int) (k i : Nat) : lH seq bc k (i + 1) = lH seq bc k i ++ kZ bc k i := by
 unfold lH
 rw [List.range_succ, List.flatMap_append, List.append_assoc]
 simp
theorem EO (seq : Int) (bc : List Int) (k : Nat) : lH seq bc k 6 ++ [0, 0, 0, 0, 0, 0] = fG seq bc k := by
 unfold lH fG fH
 simp
theorem mn {xs : List Value} (h : w.ownsRow base e size (.slice A n c) n xs) : Rd w w.heap.size A xs := by
 obtain ⟨A', c', e', _, _, hr⟩ := bM h
 injection e' with e1 _ _
 rw [e1]
 exact hr
theorem R4 (seq : Int) (A : Option Addr) (n c : Nat) (bc : List Int) (k : Nat) (w : World) (hA : Rd w w.heap.size A (aA bc)) (hn : bc.length = n) (qY : n ≤ 48) (hk : k < 8) :
 Calls prog 123 #[.int .i64 seq, .slice A n c, .int .i64 (k : Int)] w fun e w' => ∃ g cc, e = .returned (.slice (some ⟨g, 0, none⟩) 64 cc) ∧ w'.ownsRow w.heap.size 5 1 (.slice (some ⟨g, 0, none⟩) 64 cc) 64 (ag .u8 (eL seq bc k)) ∧ bW w w' := by
 obtain ⟨i5, rS, jd, jc, jb⟩ := info_parts kz
 have HA := iD hA
 have HN := iD hn
 clear hA hn
 go_enter func123, ntmps123
 go_wp2_with (fail)
 have Rv : Hid (∀ w, Calls prog 127 #[.int .i64 seq, .int .i64 6] w fun e w' => ∃ v, e = .returned v ∧ w'.ownsRow w.heap.size 5 1 v 6 (ag .u8 (eM (lZ seq) 6)) ∧ bW w w') := fun w => KD seq 6 w oM oM
 have HP8 : Hid (∀ x w, Calls prog 127 #[.int .i64 x, .int .i64 8] w fun e w' => ∃ v, e = .returned v ∧ w'.ownsRow w.heap.size 5 1 v 8 (ag .u8 (eM (lZ x) 8)) ∧ bW w w') := fun x w => KD x 8 w oM oM
 have U0 : Hid (∀ x w, Calls prog 127 #[.int .i64 x, .int .i64 2] w fun e w' => ∃ v, e = .returned v ∧ w'.ownsRow w.heap.size 5 1 v 2 (ag .u8 (eM (lZ x) 2)) ∧ bW w w') := fun x w => KD x 2 w oM oM
 obtain ⟨W, hW⟩ := ex (w.alloc (.cells #[.int .u8 (k : Int), .int .u8 (n : Int)] 5))
 have mB : Hid (W.ownsRow w.heap.size 5 1 (.slice (some ⟨w.heap.size, 0, none⟩) 2 2) 2 (ag .u8 [(k : Int), (n : Int)])) := by
  rw [← hW]
  exact fP rfl rfl cV (by unfold maxLen; omega)
 have gg : Hid (bW w W) := by rw [← hW]; exact bV.alloc cV _
 rw [hW]
 clear hW
 refine (Rv W).mono ?_
 rintro e w1 ⟨v1, rfl, lW, dC⟩
 obtain ⟨A1, c1, rfl, h11, h12, _⟩ := a9 lW
 have HR1 := iD (mn lW)
 have iL := iD (aC mB dC)
 have yh : Hid (bW w w1) := gg.trans (dC.mono gg.size)
 have HL6 : Hid ((ag .u8 (eM (lZ seq) 6)).length = 6 * 1) := by rw [Hid, aD, cJ]
 clear lW dC
 go_wp2_with (at_builtin; refine aN _ rfl _ _ 32 rfl w.heap.size 5 i5 (.int .u8 0) 1 1 underlying32 rS jd jc jb rfl oM _ 2 (ag .u8 [(k : Int), (n : Int)]) rfl iL w1.heap.size _ 6 c1 (ag .u8 (eM (lZ seq) 6)) rfl HR1 HL6 (cZ _ _) (by unfold maxLen; omega) oM yh.size ?_)
 intro v8 w8 hown8 hgrow8 _
 have ya : Hid (w8.ownsRow w.heap.size 5 1 v8 8 (ag .u8 (lH seq bc k 0))) := by
  have e : lH seq bc k 0 = [(k : Int), (n : Int)] ++ eM (lZ seq) 6 := by
   unfold lH pL
   rw [HN]
   simp
  rw [Hid, e, dp]
  exact hown8
 have kq : Hid (bW w w8) := yh.grown hgrow8 yh.size (fun k hk => (iL.lt k hk).1)
 clear hown8 hgrow8
 go_wp2
 go_loopw [7, 8] (fun v i wr => ∃ t q : Nat, t ≤ 6 ∧ q = 6 * k + t ∧ i = .int .i64 (q : Int) ∧ wr.ownsRow w.heap.size 5 1 v (8 + 8 * t) (ag .u8 (lH seq bc k t)) ∧ bW w wr) (fun _ i _ => 6 * k + 6 - (intOf i).toNat)
 case atStart => exact ⟨0, 6 * k, oM, oM, by go_num, ya, kq⟩
 case round =>
  obtain ⟨t, q, ht, hq, rfl, hO, hB⟩ := hrel
  have HO := iD hO
  have HB := iD hB
  have HQ := iD hq
  clear hO hB
  by_cases aY : t < 6
  ·have Dv : (q : Int) < 6 * (k : Int) + 6 := oM
   clear hq
   by_cases hqn : q < n
   ·obtain ⟨x, hx⟩ := getElem?_of_lt (l := bc) (k := q) (by rw [HN]; exact hqn)
    have HV : Hid (kZ bc k t = eM (lZ x) 8) := by
     unfold kZ
     rw [Hid, ← HQ, hx]
    obtain ⟨ba, off, rfl, _, c0⟩ := (HA.below HB cV).int hx
    clear hx
    go_wp2_with (fail)
    refine (HP8 x wr).mono ?_
    rintro e w3 ⟨v3, rfl, Nm, gV⟩
    obtain ⟨A3, c3, rfl, h31, h32, _⟩ := a9 Nm
    have PM := iD (mn Nm)
    have se := iD (aC HO gV)
    have jI : Hid (bW w w3) := HB.trans (gV.mono HB.size)
    have HL8 : Hid ((ag .u8 (eM (lZ x) 8)).length = 8 * 1) := by rw [Hid, aD, cJ]
    clear Nm gV
    go_wp2_with (at_builtin; refine aN _ rfl _ _ 32 rfl w.heap.size 5 i5 (.int .u8 0) 1 1 underlying32 rS jd jc jb rfl oM _ (8 + 8 * t) (ag .u8 (lH seq bc k t)) rfl se w3.heap.size _ 8 c3 (ag .u8 (eM (lZ x) 8)) rfl PM HL8 (cZ _ _) (by unfold maxLen; omega) oM jI.size ?_)
    intro v9 w9 hown9 hgrow9 _
    have xd : Hid (w9.ownsRow w.heap.size 5 1 v9 (8 + 8 * (t + 1)) (ag .u8 (lH seq bc k (t + 1)))) := by
     rw [Hid, wm, HV, dp]
     exact hown9
    have jS : Hid (bW w w9) := jI.grown hgrow9 jI.size (fun k hk => (se.lt k hk).1)
    clear hown9 hgrow9
    go_wp2
    go_roundw
    case rel => exact ⟨t + 1, q + 1, oM, by have := HQ.out; omega, by go_num, xd.out, jS.out⟩
    case measure => simp [intOf]; omega
   have HV : Hid (kZ bc k t = eM (lZ 0) 8) := by
    unfold kZ
    rw [Hid, ← HQ, List.getElem?_eq_none (by rw [HN]; omega)]
    decide
   go_wp2_with (fail)
   refine (HP8 0 wr).mono ?_
   rintro e w3 ⟨v3, rfl, Nm, gV⟩
   obtain ⟨A3, c3, rfl, h31, h32, _⟩ := a9 Nm
   have PM := iD (mn Nm)
   have se := iD (aC HO gV)
   have jI : Hid (bW w w3) := HB.trans (gV.mono HB.size)
   have HL8 : Hid ((ag .u8 (eM (lZ 0) 8)).length = 8 * 1) := by rw [Hid, aD, cJ]
   clear Nm gV
   go_wp2_with (at_builtin; refine aN _ rfl _ _ 32 rfl w.heap.size 5 i5 (.int .u8 0) 1 1 underlying32 rS jd jc jb rfl oM _ (8 + 8 * t) (ag .u8 (lH seq bc k t)) rfl se w3.heap.size _ 8 c3 (ag .u8 (eM (lZ 0) 8)) rfl PM HL8 (cZ _ _) (by unfold maxLen; omega) oM jI.size ?_)
   intro v9 w9 hown9 hgrow9 _
   have xd : Hid (w9.ownsRow w.heap.size 5 1 v9 (8 + 8 * (t + 1)) (ag .u8 (lH seq bc k (t + 1)))) := by
    rw [Hid, wm, HV, dp]
    exact hown9
   have jS : Hid (bW w w9) := jI.grown hgrow9 jI.size (fun k hk => (se.lt k hk).1)
   clear hown9 hgrow9
   go_wp2
   go_roundw
   case rel => exact ⟨t + 1, q + 1, oM, by have := HQ.out; omega, by go_num, xd.out, jS.out⟩
   case measure => simp [intOf]; omega
  obtain rfl : t = 6 := oM
  have Dv : ¬ (q : Int) < 6 * (k : Int) + 6 := oM
  clear hq
  go_wp2_with (at_builtin; refine aN _ rfl _ _ 32 rfl w.heap.size 5 i5 (.int .u8 0) 1 1 underlying32 rS jd jc jb rfl oM _ 56 (ag .u8 (lH seq bc k 6)) rfl (aC HO (bV.alloc cV _)) (wr.heap.size + 1) _ 6 6 (ag .u8 [0, 0, 0, 0, 0, 0]) rfl (Rd.new wr _ _ _ rfl) rfl (cZ _ _) (by unfold maxLen; omega) oM (by have := HB.size; simp; omega) ?_)
  intro v9 w9 hown9 hgrow9 _
  have kU : w9.ownsRow w.heap.size 5 1 v9 62 (ag .u8 (fG seq bc k)) := by
   rw [← EO, dp]
   exact hown9
  have jS : Hid (bW w w9) := (HB.alloc HB.size _).grown hgrow9 (by have := HB.size; simp; omega) (fun k hk => (HO.lt k hk).1)
  obtain ⟨A9, c9, rfl, h91, h92, _⟩ := a9 kU
  have xd := iD kU
  have HZ := iD (FR A9 62 c9 (fG seq bc k) w9 (mn kU) (eu _ _ _) (ou seq bc k 6 oM (by rw [HN]; omega)) oM)
  obtain ⟨z, hz⟩ := ex (cr (fG seq bc k))
  have Z7 := gj (fG seq bc k)
  rw [eu, hz] at Z7
  have zw : lZ z = z := by rw [wW]; omega
  have HPZ : Hid (fG seq bc k ++ eM (lZ z) 2 = eL seq bc k) := by rw [Hid, zw, ← hz]; rfl
  rw [hz] at HZ
  clear hown9 hgrow9 kU hz zw
  go_wp2_with (fail)
  refine HZ.mono ?_
  rintro e Uj ⟨rfl, rfl⟩
  go_wp2_with (fail)
  refine (U0 z _).mono ?_
  rintro e w11 ⟨v11, rfl, Iy, IF⟩
  obtain ⟨A11, rZ, rfl, acA, acz, _⟩ := a9 Iy
  have abg := iD (mn Iy)
  have X8 := iD (aC xd IF)
  have T6 : Hid (bW w w11) := jS.trans (IF.mono jS.size)
  have HL2 : Hid ((ag .u8 (eM (lZ z) 2)).length = 2 * 1) := by rw [Hid, aD, cJ]
  clear Iy IF
  go_wp2_with (at_builtin; refine aN _ rfl _ _ 32 rfl w.heap.size 5 i5 (.int .u8 0) 1 1 underlying32 rS jd jc jb rfl oM _ 62 (ag .u8 (fG seq bc k)) rfl X8 w11.heap.size _ 2 rZ (ag .u8 (eM (lZ z) 2)) rfl abg HL2 (cZ _ _) (by unfold maxLen; omega) oM T6.size ?_)
  intro tz w12 hown12 hgrow12 _
  have SA : w12.ownsRow w.heap.size 5 1 tz 64 (ag .u8 (eL seq bc k)) := by
   rw [← HPZ, dp]
   exact hown12
  have abC : Hid (bW w w12) := T6.grown hgrow12 T6.size (fun k hk => (X8.lt k hk).1)
  obtain ⟨A12, Mm, rfl, _, _, aaw⟩ := a9 SA
  obtain ⟨g12, rfl, _, _⟩ := aaw oM
  have abp := iD SA
  clear hown12 hgrow12 SA
  go_wp2
  go_ret
  exact ⟨g12, Mm, rfl, abp, abC⟩
structure AU (w wr : World) (v : Value) (vs : List Value) (seq : Int) (bc : List Int) (k : Nat) : Prop where
 own : wr.ownsRow w.heap.size 32 1 v k vs
 pg : ∀ i, i < k → ∃ g c, vs[i]? = some (.slice (some ⟨g, 0, none⟩) 64 c) ∧ wr.ownsRow w.heap.size 5 1 (.slice (some ⟨g, 0, none⟩) 64 c) 64 (ag .u8 (eL seq bc i))
 below : bW w wr
theorem AU.ab {wr : World} {seq : Int} (h : AU w wr v vs seq bc k) (hb : bW wr w') : AU w w' v vs seq bc k :=
 ⟨aC h.own hb, fun i hi => by
  obtain ⟨g, c, h1, h2⟩ := h.pg i hi
  exact ⟨g, c, h1, aC h2 hb⟩, h.below.trans (hb.mono h.below.size)⟩
theorem AU.push {seq : Int} {g : Nat} (h : AU w W v vs seq bc k) 
 (hp : W.ownsRow w.heap.size 5 1 (.slice (some ⟨g, 0, none⟩) 64 c) 64 (ag .u8 (eL seq bc k)))
 (ho : W'.ownsRow w.heap.size 32 1 v' (k + 1) (vs ++ [.slice (some ⟨g, 0, none⟩) 64 c])) (hg : (W.alloc o).grownBy W' v.ownBlock) : AU w W' v' (vs ++ [.slice (some ⟨g, 0, none⟩) 64 c]) seq bc (k + 1) := by
 have hb : bW W (W.alloc o) := bV.alloc cV o
 have h1 := h.ab hb
 have rR := aC hp hb
 have hl : vs.length = k := by have := h.own.1; simpa using this
 refine ⟨ho, fun i hi => ?_, h1.below.grown hg h1.below.size (fun k hk => (h1.own.lt k hk).1)⟩
 by_cases e : i = k
 ·subst e
  exact ⟨g, c, by rw [List.getElem?_append_right oM, hl]; simp, bN rR hg (fun g' du e' => aL h1.own rR (by decide) g' e' du)⟩
 obtain ⟨g', c', a1, a2⟩ := h1.pg i oM
 exact ⟨g', c', by rw [List.getElem?_append_left oM]; exact a1, bN a2 hg (fun g2 du e' => aL h1.own a2 (by decide) g2 e' du)⟩
theorem AU.rd {wr : World} {seq : Int} (h : AU w wr (.slice A n c) vs seq bc n) (hn : n = cN bc.length) (X : Nat → Prop) (hX : ∀ b, X b → b < w.heap.size) : lT X wr A (dV seq bc) := by
 have hl : vs.length = n := by have := h.own.1; simpa using this
 refine ⟨vs, lA hl h.own hX, by rw [fF, hl, hn], fun i p hp => ?_⟩
 have hi : i < cN bc.length := by rw [← fF seq bc]; exact (List.getElem?_eq_some_iff.1 hp).1
 rw [CQ seq bc i hi] at hp
 injection hp with hp
 subst hp
 obtain ⟨g, c, a1, a2⟩ := h.pg i oM
 obtain ⟨A', c', e, h1, h2, _⟩ := a9 a2
 injection e with _ _ e3
 subst e3
 exact ⟨_, 64, c, a1, dQ _ _ _, h1, h2, lA (by rw [aD, dQ]) a2 hX⟩
theorem Pa (seq : Int) (A : Option Addr) (n c : Nat) (w : World) (hn : n < 1000000000000) (h : fU seq n ≠ 0) :
 Calls prog 111 #[.int .i64 seq, .slice A n c] w fun e w' => e = .returned (.tuple #[.slice none 0 0, .int .i64 3]) ∧ w = w' := by
 have hc : seq < 1 ∨ (¬ seq < 1 ∧ 1099511627776 < seq) ∨ (¬ seq < 1 ∧ ¬ 1099511627776 < seq ∧ n < 1) ∨ (¬ seq < 1 ∧ ¬ 1099511627776 < seq ∧ ¬ n < 1 ∧ 48 < n) := by
  unfold fU at h
  split at h
  ·omega
  exact absurd rfl h
 clear h
 rcases hc with h1 | ⟨h1, h2⟩ | ⟨h1, h2, h3⟩ | ⟨h1, h2, h3, h4⟩
 all_goals
  go_enter func111, ntmps111
  go_wp2
  go_ret2
  exact ⟨rfl, rfl⟩
theorem CP (X : Nat → Prop) (seq : Int) (A : Option Addr) (n c : Nat) (bc : List Int) (w : World) (hX : ∀ b, X b → b < w.heap.size) (hA : Rd w w.heap.size A (aA bc)) (hn : bc.length = n) (h : fU seq n = 0) :
 Calls prog 111 #[.int .i64 seq, .slice A n c] w fun e w' => ∃ A' c', e = .returned (.tuple #[.slice A' (cN n) c', .int .i64 0]) ∧ cN n ≤ c' ∧ c' ≤ maxLen ∧ lT X w' A' (dV seq bc) ∧ bW w w' := by
 obtain ⟨s1, s2, n1, n2⟩ := ko h
 have HA := iD hA
 have HN := iD hn
 have HX := iD hX
 have jh := iD (fun w => oF n oM w)
 obtain ⟨P, hP⟩ := ex (cN n)
 have HP := iD hP
 have hP8 : P ≤ 8 := by rw [← hP]; exact jL n2
 rw [hP] at jh
 rw [hP]
 obtain ⟨i23, hi, ur, Qq, Cj⟩ := info_parts zN
 have gF : ¬ seq < 1 := oM
 have je : ¬ 1099511627776 < seq := oM
 clear hA hn hX h hP
 go_enter func111, ntmps111
 go_wp2_with (fail)
 refine (jh w).mono ?_
 rintro e w1 ⟨rfl, rfl⟩
 go_wp2
 go_loopw [6, 27] (fun v i wr => ∃ (k : Nat) (vs : List Value), k ≤ P ∧ i = .int .i64 k ∧ AU w wr v vs seq bc k) (fun _ i _ => P - (intOf i).toNat)
 case atStart => exact ⟨0, [], Nat.zero_le _, rfl, World.ownsRow_nil _ _ _ _, fun i hi => oM, Below.refl _ _⟩
 case round =>
  obtain ⟨k, vs, hk, rfl, hI⟩ := hrel
  have HI := iD hI
  clear hI
  by_cases aY : k < P
  ·have mA := iD (R4 seq A n c bc k wr ((HA.below HI.below cV).more HI.below.size) HN n2 oM)
   go_wp2_with (fail)
   refine mA.mono ?_
   rintro e w6 ⟨g, cc, rfl, oJ, fB⟩
   have PY := iD (HI.ab fB)
   have AL : Hid (w6.ownsRow w.heap.size 5 1 (.slice (some ⟨g, 0, none⟩) 64 cc) 64 (ag .u8 (eL seq bc k))) := mT oJ HI.below.size
   clear oJ fB
   go_wp2_with (at_builtin; refine wpList_append_own _ rfl _ _ 41 rfl w.heap.size 32 i23 (.slice none 0 0) 1 24 underlying41 hi ur Qq Cj rfl oM _ _ _ rfl (aC PY.own (bV.alloc cV _)) ⟨w6.heap.size, 0, none⟩ 1 1 [.slice (some ⟨g, 0, none⟩) 64 cc] rfl rfl (cell_one_new _ _ _) (by simp [Value.oneCell']) (by unfold maxLen; omega) oM (by have := PY.below.size; simp; omega) ?_)
   intro v' w8 hown8 hgrow8 _
   have PX := iD (PY.push AL hown8 hgrow8)
   clear hown8 hgrow8
   go_wp2
   go_roundw
   case rel => exact ⟨k + 1, _, oM, by go_num, PX⟩
   case measure => simp [intOf]; omega
  have kE : k = P := oM
  subst kE
  obtain ⟨A', c', rfl, h1, h2, _⟩ := bM HI.own
  have HR := iD (HI.rd (by rw [HN, HP]) X HX)
  have HH := iD (And.intro h1 h2)
  clear h1 h2
  go_wp2
  go_ret2
  exact ⟨A', c', rfl, HH.1, HH.2, HR, HI.below⟩
def Ud (w : World) (d : Int × List Int × Int) (e : Ending) (w' : World) : Prop :=
 ∃ A c, e = .returned (.tuple #[.int .i64 d.1, .slice A d.2.1.length c, .int .i64 d.2.2]) ∧ w'.ownsRow w.heap.size 3 1 (.slice A d.2.1.length c) d.2.1.length (aA d.2.1) ∧ bW w w'
theorem Ud.none {k : Int} (hb : bW w w') : Ud w (0, [], k) (.returned (.tuple #[.int .i64 0, .slice none 0 0, .int .i64 k])) w' :=
 ⟨Option.none, 0, rfl, World.ownsRow_nil .., hb⟩
theorem Mh (A : Option Addr) (n c : Nat) (ps : List (List Int)) (w : World) (hA : lT X w A ps) (hn : ps.length = n) (qm : n ≤ c) (fQ : c ≤ maxLen) (hb : ∀ p ∈ ps, Bytes p) :
 Calls prog 82 #[.slice A n c] w (Ud w (fg ps)) := by
 unfold maxLen at fQ
 by_cases hl : ps.length < 1 ∨ 8 < ps.length
 ·have HD := iD (CT hl)
  rw [hn] at hl
  clear hA hn hb
  rcases hl with h | h
  all_goals
   go_enter func82, ntmps82
   go_wp2
   go_ret3
   rw [HD]
   exact .none bV
 have n1 : 1 ≤ n := oM
 have n8 : n ≤ 8 := oM
 have HL := iD hl
 have HA := iD hA
 have HN := iD hn
 have HB := iD hb
 clear hA hn hb hl
 go_enter func82, ntmps82
 go_wp2
 go_loopw [24] (fun i wr => ∃ k : Nat, k ≤ n ∧ i = .int .i64 k ∧ (ps.take k).all dw = true ∧ ∃ q, wr = w.drewN q) (fun i _ => n - (intOf i).toNat)
 case atStart => exact ⟨0, Nat.zero_le _, rfl, rfl, 0, rfl⟩
 case round =>
  obtain ⟨k, hk, rfl, ht, q, rfl⟩ := hrel
  have HT := iD ht
  clear ht
  by_cases aY : k < n
  ·obtain ⟨p, hp⟩ := getElem?_of_lt (l := ps) (k := k) (by rw [HN]; exact aY)
   obtain ⟨ba, off, Q, cc, rfl, _, e1, p1, p2, r1⟩ := (HA.drew q).get hp
   have HG := iD (Tg Q p.length cc p (w.drewN q) r1.rd rfl p1 p2 (HB p (List.mem_of_getElem? hp)))
   have HP := iD hp
   generalize p.length = lp at *
   clear hp r1 p1 p2
   by_cases hg : dw p = true
   ·rw [hg] at HG
    have HS := iD (Dc HP HT hg)
    clear hg
    go_wp2_with (fail)
    refine HG.mono ?_
    rintro e w2 ⟨rfl, q2, rfl⟩
    go_wp2
    go_roundw
    case rel => exact ⟨k + 1, oM, by go_num, HS, _, rfl⟩
    case measure => simp [intOf]; omega
   have du : dw p = false := by simpa using hg
   rw [du] at HG
   have HD := iD (CS HL (GR HP du))
   clear hg du
   go_wp2_with (fail)
   refine HG.mono ?_
   rintro e w2 ⟨rfl, q2, rfl⟩
   go_wp2
   go_ret3
   rw [HD]
   exact .none (Below.drewN bV _)
  have kE : k = n := oM
  subst kE
  have gH : ps.all dw = true := by
   have := HT.out
   rwa [List.take_of_length_le (by rw [HN]; exact Nat.le_refl _)] at this
  obtain ⟨p0, Ba⟩ := getElem?_of_lt (l := ps) (k := 0) (by rw [HN]; omega)
  have QI : p0.length = 64 := oN (List.all_eq_true.1 gH p0 (List.mem_of_getElem? Ba))
  obtain ⟨x1, Ez⟩ := getElem?_of_lt (l := p0) (k := 1) oM
  have qF := HB p0 (List.mem_of_getElem? Ba) x1 (List.mem_of_getElem? Ez)
  obtain ⟨n0, rfl⟩ := Int.eq_ofNat_of_zero_le qF.1
  obtain ⟨ba, off, Q0, c0, rfl, hbA, e0, p1, p2, r0⟩ := HA.get Ba
  rw [QI] at e0 p1
  rw [Nat.add_zero] at e0
  obtain ⟨g, o, rfl, hgl, e1⟩ := r0.rd.mq Ez
  obtain ⟨s, hs⟩ := ex (ze (eN ((p0.drop 2).take 6)))
  have H91 : Hid (∀ q2, Calls prog 110 #[.slice (some ⟨g, o + 2, none⟩) 6 (c0 - 2)] (w.drewN q2) fun e w' => e = .returned (.int .i64 s) ∧ w' = w.drewN q2) := by
   intro q2
   rw [← hs]
   exact (Cc _ 6 _ _ _ ((r0.rd.part 2 6).drew cV q2) (by rw [List.length_take, List.length_drop, QI]; rfl) (gy (ei (HB p0 (List.mem_of_getElem? Ba)) 2) 6) oM).mono fun _ _ h => ⟨h.1, h.2.symm⟩
  have xk := iD gH
  have FF := iD Ba
  have DK := iD Ez
  have Z3 : n0 < 256 := oM
  have Jv := iD hs
  unfold maxLen at p2
  clear gH Ba QI Ez qF r0 hs
  have k0 : 0 < k := oM
  go_wp2
  have q0 : (8 : Int) ≤ (c0 : Int) := oM
  have q9 : ¬ (c0 = 2) := oM
  go_quiet ((go_at_call 110; with_reducible exact vE (H91.out _)))
  clear q0 q9 e1
  have hc : n0 < 1 ∨ (¬ n0 < 1 ∧ 48 < n0) ∨ (¬ n0 < 1 ∧ ¬ 48 < n0) := oM
  rcases hc with f1 | ⟨f1, f2⟩ | ⟨f1, f2⟩
  ·have HD := iD (oS HL xk FF DK (by rw [HN]; exact .inl f1))
   go_wp2
   go_ret3
   rw [HD]
   exact .none (Below.drewN bV _)
  ·have HD := iD (oS HL xk FF DK (by rw [HN]; exact .inr (.inl f2)))
   go_wp2
   go_ret3
   rw [HD]
   exact .none (Below.drewN bV _)
  have jh := iD (fun w => oF n0 oM w)
  by_cases qH : cN n0 = k
  rotate_left
  ·have HD := iD (oS HL xk FF DK (by rw [HN]; exact .inr (.inr qH)))
   have gB : ((cN n0 : Nat) : Int) != (k : Int) := by simp; omega
   generalize cN n0 = P at *
   go_wp2_with (fail)
   refine (jh _).mono ?_
   rintro e w1 ⟨rfl, rfl⟩
   go_wp2
   go_ret3
   rw [HD]
   exact .none (Below.drewN bV _)
  have HD := iD (CU HL xk FF DK (by rw [HN]; omega))
  rw [Jv] at HD
  rw [qH] at jh
  have xb := iD qH
  have gB : ((k : Int) != (k : Int)) = false := by simp
  obtain ⟨wq, Sd⟩ := ex ((w.drewN q).drewN nq)
  have Bn : Hid (bW w wq) := by rw [← Sd, World.drewN_drewN]; exact Below.drewN bV _
  rw [Sd]
  clear qH Sd
  go_wp2_with (fail)
  refine (jh _).mono ?_
  rintro e w1 ⟨rfl, rfl⟩
  obtain ⟨i3, vS, kB, jN, la⟩ := info_parts mr
  go_wp2
  go_loopw [9, 57] (fun v i wr => ∃ j : Nat, j ≤ n0 ∧ i = .int .i64 j ∧ wr.ownsRow w.heap.size 3 1 v j (aA ((List.range j).map (lq ps))) ∧ bW w wr) (fun _ i _ => n0 - (intOf i).toNat)
  case atStart => exact ⟨0, Nat.zero_le _, rfl, World.ownsRow_nil _ _ _ _, Bn⟩
  case round =>
   obtain ⟨j, hj, rfl, hO, OQ⟩ := hrel
   have HO := iD hO
   have Ds := iD OQ
   clear hO OQ
   by_cases hltj : j < n0
   ·have VY : j / 6 < k := by have := xb.out; unfold cN at this; omega
    obtain ⟨p, hp⟩ := getElem?_of_lt (l := ps) (k := j / 6) (by rw [HN]; exact VY)
    have SF : p.length = 64 := oN (List.all_eq_true.1 xk p (List.mem_of_getElem? hp))
    obtain ⟨Ze, uq, Q, cc, eA, _, e2, p3, p4, r1⟩ := (HA.below Ds).get hp
    injection eA with eA
    injection eA with eA1 eA2
    subst eA1
    subst eA2
    rw [SF] at e2 p3
    obtain ⟨g2, o2, rfl⟩ : ∃ g2 o2, Q = some ⟨g2, o2, none⟩ := by
     obtain ⟨x, hx⟩ := getElem?_of_lt (l := p) (k := 0) oM
     obtain ⟨b', o', e, _⟩ := r1.rd.mq hx
     exact ⟨b', o', e⟩
    obtain ⟨qA, kg⟩ := ex (8 + 8 * (j % 6))
    obtain ⟨et, het⟩ := ex (qA + 8)
    have aaL : et ≤ 64 := oM
    have t1 : (j : Int) % 6 = ((j % 6 : Nat) : Int) := oM
    have t1' : (j : Int).tmod 6 = ((j % 6 : Nat) : Int) := by rw [Int.tmod_eq_emod_of_nonneg oM]; exact t1
    have t2 : (8 : Int) + ((j % 6 : Nat) : Int) * 8 = (qA : Int) := oM
    have t2' : (16 : Int) + ((j % 6 : Nat) : Int) * 8 = (et : Int) := oM
    have t3 : (j : Int) / 6 = ((j / 6 : Nat) : Int) := oM
    have t3' : (j : Int).tdiv 6 = ((j / 6 : Nat) : Int) := by rw [Int.tdiv_eq_ediv_of_nonneg oM]; exact t3
    have t6 : et - qA = 8 := oM
    have HV : Hid (ze (eN ((p.drop qA).take 8)) = lq ps j) := by rw [Hid, CR hp, kg]
    have MT := iD (Cc (some ⟨g2, o2 + qA, none⟩) 8 (cc - qA) ((p.drop qA).take 8) wr (r1.rd.part qA 8) (by rw [List.length_take, List.length_drop, SF]; omega) (gy (ei (HB p (List.mem_of_getElem? hp)) qA) 8) oM)
    rw [HV] at MT
    have t4 : ¬ (cc = qA) := oM
    have t7 : qA ≤ et := oM
    have t8 : et ≤ cc := oM
    unfold maxLen at p4
    generalize j / 6 = pi at *
    generalize j % 6 = pj at *
    clear hp SF r1 kg het
    go_wp2_with (fail)
    refine MT.mono ?_
    rintro e w2 ⟨rfl, rfl⟩
    go_wp2_with (at_builtin; refine wpList_append_own _ rfl _ _ 33 rfl w.heap.size 3 i3 (.int .i64 0) 1 8 underlying33 vS kB jN la rfl oM _ _ _ rfl (aC HO (bV.alloc cV _)) ⟨wr.heap.size, 0, none⟩ 1 1 [.int .i64 (lq ps j)] rfl rfl (cell_one_new _ _ _) (by simp [Value.oneCell']) (by unfold maxLen; omega) oM (by have := Ds.size; simp; omega) ?_)
    intro v' w8 hown8 hgrow8 _
    have ya : Hid (w8.ownsRow w.heap.size 3 1 v' (j + 1) (aA ((List.range (j + 1)).map (lq ps)))) := by
     rw [Hid, nH, aA, List.map_append]
     exact hown8
    have kq : Hid (bW w w8) := (Ds.alloc Ds.size _).grown hgrow8 (by have := Ds.size; simp; omega) (fun k hk => (HO.lt k hk).1)
    clear hown8 hgrow8
    go_wp2
    go_roundw
    case rel => exact ⟨j + 1, oM, by go_num, ya, kq⟩
    case measure => simp [intOf]; omega
   have Bc : j = n0 := oM
   subst Bc
   obtain ⟨A', c', rfl, h1, h2, hr⟩ := bM HO
   have HR := iD hr
   have HC := iD (And.intro h1 h2)
   have hF : ∀ b, (fun _ : Nat => False) b → b < wr.heap.size := fun b h => h.elim
   obtain ⟨bc, qV⟩ := ex ((List.range j).map (lq ps))
   have Ip : bc.length = j := by rw [← qV]; simp
   have On : ∀ x ∈ bc, dI x := by rw [← qV]; exact pI
   rw [qV] at HD HR HO
   have PD := iD Ip
   clear h1 h2 hr qV
   by_cases he : fU s j = 0
   ·have HE := iD (CP (fun _ => False) s A' j c' bc wr hF HR Ip he)
    rw [xb] at HE
    have ZD : Hid ((dV s bc).length = k) := by rw [Hid, fF, PD]; exact xb
    have HEB : Hid (∀ p ∈ dV s bc, Bytes p) := fun p hp => (Ai (by rw [PD]; omega) p hp).2
    have U7 := iD he
    clear hF Ip On he
    go_wp2_with (fail)
    refine HE.mono ?_
    rintro e w3 ⟨A3, c3, rfl, h1, h2, EE, gV⟩
    have PM := iD EE
    have jI : Hid (bW w w3) := Ds.trans (gV.mono Ds.size)
    have se := iD (aC HO gV)
    clear h1 h2 EE gV
    go_wp2
    go_loopw [89] (fun i wr => ∃ t : Nat, t ≤ k ∧ i = .int .i64 t ∧ (dV s bc).take t = ps.take t ∧ ∃ q, wr = w3.drewN q) (fun i _ => k - (intOf i).toNat)
    case atStart => exact ⟨0, Nat.zero_le _, rfl, rfl, 0, rfl⟩
    case round =>
     obtain ⟨t, ht, rfl, Gt, q3, Qr⟩ := hrel
     have xB := iD Gt
     have HAr : Hid (lT X wr (some ⟨ba, off, none⟩) ps) := by rw [Qr]; exact (HA.below jI).drew q3
     have HRr : Hid (lT (fun _ => False) wr A3 (dV s bc)) := by rw [Qr]; exact PM.drew q3
     have HBr : Hid (bW w3 wr) := by rw [Qr]; exact Below.drewN bV _
     have HWR := iD Qr
     clear Gt Qr
     by_cases hltt : t < k
     ·obtain ⟨p, hp⟩ := getElem?_of_lt (l := ps) (k := t) (by rw [HN]; exact hltt)
      obtain ⟨r, hr⟩ := getElem?_of_lt (l := dV s bc) (k := t) (by rw [ZD]; exact hltt)
      obtain ⟨Ze, uq, Q, cc, eA, _, e2, p3, p4, r1⟩ := HAr.get hp
      injection eA with eA
      injection eA with eA1 eA2
      subst eA1
      subst eA2
      obtain ⟨ba3, abO, Q3, cc3, rfl, _, e3, p5, p6, r3⟩ := HRr.get hr
      have s1 : ∀ q, (convert 32 9 (.slice Q p.length cc)).run prog (wr.drewN q) = .ok (.string (strOfNums p)) (wr.drewN q) := fun q => lO (r1.rd.drew cV q) rfl
      have s2 : ∀ q, (convert 32 9 (.slice Q3 r.length cc3)).run prog (wr.drewN q) = .ok (.string (strOfNums r)) (wr.drewN q) := fun q => lO (r3.rd.drew cV q) rfl
      have hs := FZ (HB p (List.mem_of_getElem? hp)) (HEB r (List.mem_of_getElem? hr))
      have HP := iD hp
      have HRR := iD hr
      clear hp hr r1 r3 p3 p4 p5 p6
      generalize p.length = lp at *
      generalize r.length = lr at *
      by_cases EF : p = r
      ·rw [decide_eq_true EF] at hs
       have eX := iD (vf HRR HP xB EF.symm)
       clear EF
       go_wp2
       go_quiet (fail)
       go_wp2
       go_roundw
       case rel => exact ⟨t + 1, oM, by go_num, eX, _, by rw [HWR, World.drewN_drewN]⟩
       case measure => simp [intOf]; omega
      rw [decide_eq_false EF] at hs
      have HF : Hid (fg ps = (0, [], 2)) := by
       rw [Hid, HD, iP]
       right
       intro e
       rw [e, HP] at HRR
       injection HRR with h
       exact EF h
      clear EF
      go_wp2
      go_quiet (fail)
      go_wp2
      go_ret3
      rw [HF]
      exact .none (jI.trans ((Below.drewN HBr _).mono jI.size))
     obtain rfl : t = k := oM
     have HQ : Hid (dV s bc = ps) := by
      have := xB.out
      rwa [List.take_of_length_le (by rw [ZD]; exact Nat.le_refl _), List.take_of_length_le (by rw [HN]; exact Nat.le_refl _)] at this
     have HF : Hid (fg ps = (s, bc, 0)) := by
      rw [Hid, HD, iN]
      rintro (h | h)
      ·exact h U7
      exact h HQ
     go_wp2
     go_ret3
     rw [HF]
     refine ⟨A', c', ?_, ?_, jI.trans (HBr.mono jI.size)⟩
     ·simp only [PD.out]; rfl
     simp only [PD.out]; exact aC se HBr
   have HE := iD (Pa s A' j c' wr oM he)
   have HF : Hid (fg ps = (0, [], 2)) := by
    rw [Hid, HD, iP (.inl he)]
   clear hF Ip On he
   go_wp2_with (fail)
   refine HE.mono ?_
   rintro e w3 ⟨rfl, rfl⟩
   go_wp2
   go_ret3
   rw [HF]
   exact .none Ds
theorem jl {fn : Func} {p : Tmp} {ty : TypeId} (h : fn.results = #[.cell p ty]) (tmps : Array Value) (P : Program) (w : World) :
 (results fn tmps).run P w = ((asAddr (tmps.getD p undef)).run P w).andThen fun a w₁ => (loadVar ty a).run P w₁ := by
 simp only [results, h]
 simp [Sem.run_bind, Result.andThen]
theorem yA {x : Rc} (h : ca X w x g) (i : Nat) (hi : i < 100000) :
 Calls prog 78 #[x.v g, .int .i64 i] w fun e w' => e = .returned (.int .u8 (dm g.az i)) ∧ bW w w' := by
 obtain ⟨NP, UH⟩ := ex g.az.length
 have Dw : NP ≤ maxLen := by rw [← UH]; exact Nat.le_trans h.p1 h.p2
 have H := iD h
 have HN := iD UH
 obtain ⟨A, c, B, d, P, r⟩ := x
 show Calls prog 78 #[.agg #[.slice A g.img.length c, .int .i64 g.pg, .slice B g.ar.length d, .bool g.aF, .int .i64 g.be, .slice P g.az.length r], _] w _
 rw [UH]
 have HB : Hid (bW w (w.alloc (.cells #[.slice A g.img.length c, .int .i64 g.pg, .slice B g.ar.length d, .bool g.aF, .int .i64 g.be, .slice P NP r] 35))) := bV.alloc cV _
 unfold maxLen at Dw
 by_cases aY : i < NP
 ·obtain ⟨y, hy⟩ := getElem?_of_lt (l := g.az) (k := i) (by rw [UH]; exact aY)
  have Lh : dm g.az i = y := by unfold dm; rw [hy]; rfl
  rw [Lh]
  obtain ⟨bb, off, hP, cB, c0⟩ := (h.p.rd.below (HB) cV).mq hy
  simp only at hP
  subst hP
  clear hy Lh h UH
  go_enter func78, ntmps78
  go_wp2
  go_ret
  exact ⟨rfl, HB⟩
 have Lh : dm g.az i = 0 := by unfold dm; rw [List.getElem?_eq_none oM]; rfl
 rw [Lh]
 clear Lh h UH
 go_enter func78, ntmps78
 go_wp2
 go_ret
 exact ⟨rfl, HB⟩
theorem bI (w : World) (o : Obj) : bW w (w.alloc o) := bV.alloc cV o
theorem ck (w : World) (o p : Obj) : bW w ((w.alloc o).alloc p) := (bI w o).alloc (by rw [show (w.alloc o).heap.size = w.heap.size + 1 from Array.size_push _]; omega) p
theorem C0 {x : Rc} (h : ca X w x g) :
 Calls prog 77 #[x.v g] w fun e w' => e = .returned (.tuple #[x.v (dy g).1, .bool (dy g).2]) ∧ bW w w' := by
 have hf := h.ok.LK
 have Nr := h.ok.LJ
 obtain ⟨A, c, B, d, P, r⟩ := x
 show Calls prog 77 #[.agg #[.slice A g.img.length c, .int .i64 g.pg, .slice B g.ar.length d, .bool g.aF, .int .i64 g.be, .slice P g.az.length r]] w _
 unfold dy
 clear h
 by_cases h0 : g.be = 0
 ·rw [iP h0]
  show Calls _ _ _ _ fun e w' => e = .returned (.tuple #[.agg #[.slice A g.img.length c, .int .i64 g.pg, .slice B g.ar.length d, .bool true, .int .i64 g.be, .slice P g.az.length r], .bool true]) ∧ _
  have h1 : (g.be == 0) = true := by simpa using h0
  clear h0
  go_enter func77, ntmps77
  go_wp2
  (try simp only [Exit.inBlock, Exit.then])
  refine bodyPost_ret (v := .tuple #[.agg #[.slice A g.img.length c, .int .i64 g.pg, .slice B g.ar.length d, .bool true, .int .i64 g.be, .slice P g.az.length r], .bool true]) ?_ rfl ⟨rfl, ck _ _ _⟩
  rw [results_cell_tmp rfl]
  go_simp
 rw [iN h0]
 have h1 : (g.be == 0) = false := by simpa using h0
 by_cases h2 : 0 < g.be
 ·rw [iP h2]
  show Calls _ _ _ _ fun e w' => e = .returned (.tuple #[.agg #[.slice A g.img.length c, .int .i64 g.pg, .slice B g.ar.length d, .bool g.aF, .int .i64 (g.be - 1), .slice P g.az.length r], .bool false]) ∧ _
  clear h0
  go_enter func77, ntmps77
  go_wp2
  (try simp only [Exit.inBlock, Exit.then])
  refine bodyPost_ret (v := .tuple #[.agg #[.slice A g.img.length c, .int .i64 g.pg, .slice B g.ar.length d, .bool g.aF, .int .i64 (g.be - 1), .slice P g.az.length r], .bool false]) ?_ rfl ⟨rfl, ck _ _ _⟩
  rw [results_cell_tmp rfl]
  go_simp
 rw [iN h2]
 have h3 : decide (0 < g.be) = false := by simpa using h2
 show Calls _ _ _ _ fun e w' => e = .returned (.tuple #[.agg #[.slice A g.img.length c, .int .i64 g.pg, .slice B g.ar.length d, .bool g.aF, .int .i64 g.be, .slice P g.az.length r], .bool false]) ∧ _
 clear h0 h2
 go_enter func77, ntmps77
 go_wp2
 (try simp only [Exit.inBlock, Exit.then])
 refine bodyPost_ret (v := .tuple #[.agg #[.slice A g.img.length c, .int .i64 g.pg, .slice B g.ar.length d, .bool g.aF, .int .i64 g.be, .slice P g.az.length r], .bool false]) ?_ rfl ⟨rfl, ck _ _ _⟩
 rw [results_cell_tmp rfl]
 go_simp
theorem cn.setCell {xs : List Value} (h : cn X w A xs) (p : Addr) (u : Value) (hp : X p.block) : cn X (w.setCell p u) A xs := fun hx => by
 obtain ⟨b, off, e, aY, hn, hc⟩ := h hx
 exact ⟨b, off, e, by simpa [World.setCell] using aY, hn, fun j v hv => (cell_of_block (Below.heap_setCell _ _ _ _ (by intro e2; exact hn (e2 ▸ hp)))).trans (hc j v hv)⟩
theorem cn.cU {xs : List Value} (h : cn X w A xs) (hX : ∀ b, Y b → X b) : cn Y w A xs := fun hx => by
 obtain ⟨b, off, e, aY, hn, hc⟩ := h hx
 exact ⟨b, off, e, aY, fun hy => hn (hX b hy), hc⟩
theorem yw {x : Rc} (h : ca X w x g) (hX : ∀ b, X b → b < w.heap.size) (page : Int) :
 Calls prog 79 #[x.v g, .int .i64 page] w fun e w' => ∃ A' n' c', e = .returned (.tuple #[.slice A' n' c', .int .i64 (ft g page).2]) ∧ (ft g page).1.length = n' ∧ n' ≤ c' ∧ c' ≤ maxLen ∧ cn X w' A' (ag .u8 (ft g page).1) ∧ bW w w' := by
 have qn := h.lE
 have hlen := h.ok.len
 have mv := h.a1
 have rU := h.a2
 have H := iD h
 have HX := iD hX
 obtain ⟨NI, wh⟩ := ex g.img.length
 have nv := iD wh
 obtain ⟨T, hT⟩ := ex (g.ar.length * g.pg)
 have HT := iD hT
 rw [hT] at hlen
 rw [wh] at hlen qn mv
 obtain ⟨A, c, B, d, P, r⟩ := x
 simp only at mv rU
 unfold maxLen at rU
 have Dv : (NI : Int) / 64 = (T : Int) := oM
 have A0 : (NI : Int).tdiv 64 = (T : Int) := by rw [Int.tdiv_eq_ediv_of_nonneg oM]; exact Dv
 have hTb : T ≤ 1024 := oM
 show Calls prog 79 #[.agg #[.slice A g.img.length c, .int .i64 g.pg, .slice B g.ar.length d, .bool g.aF, .int .i64 g.be, .slice P g.az.length r], _] w _
 rw [wh]
 have yd := iD hlen
 clear h hX wh hT hlen
 by_cases hd : g.aF = true
 ·have hr : ft g page = ([], 20) := by unfold ft lY; rw [iP hd]; rfl
  rw [hr, hd]
  clear hr hd
  go_enter func79, ntmps79
  go_wp2
  go_ret2
  exact ⟨none, 0, 0, rfl, rfl, Nat.le_refl _, Nat.zero_le _, cn.nil, bI _ _⟩
 have kW : g.aF = false := by simpa using hd
 rw [kW]
 by_cases hp : page < 0 ∨ (T : Int) ≤ page
 ·have hr : ft g page = ([], 10) := by unfold ft lY; rw [iN hd, HT, iP hp]; rfl
  rw [hr]
  clear hr hd kW
  by_cases h0 : page < 0
  ·clear hp
   go_enter func79, ntmps79
   go_wp2
   go_ret2
   exact ⟨none, 0, 0, rfl, rfl, Nat.le_refl _, Nat.zero_le _, cn.nil, bI _ _⟩
  have Dw : (T : Int) ≤ page := oM
  have h0' : decide (page < 0) = false := by simpa using h0
  clear hp h0
  go_enter func79, ntmps79
  go_wp2
  go_ret2
  exact ⟨none, 0, 0, rfl, rfl, Nat.le_refl _, Nat.zero_le _, cn.nil, bI _ _⟩
 obtain ⟨p, rfl⟩ : ∃ p : Nat, page = (p : Int) := ⟨page.toNat, oM⟩
 have hpT : p < T := oM
 have hr : ft g (p : Int) = (aB g p, 0) := by unfold ft lY; rw [iN hd, HT, iN hp]; simp only [Int.toNat_natCast]; rfl
 rw [hr]
 have fA : (aB g p).length = 64 := by unfold aB; rw [List.length_take, List.length_drop, nv.out]; have := yd.out; omega
 have lV := iD fA
 obtain ⟨V, hV⟩ := ex (w.alloc (.cells #[.slice A NI c, .int .i64 g.pg, .slice B g.ar.length d, .bool false, .int .i64 g.be, .slice P g.az.length r] 35))
 have oY : Hid (bW w V) := by rw [← hV]; exact bI _ _
 have v0 : V.cell? ⟨w.heap.size, 0, none⟩ = some (.slice A NI c) := by rw [← hV]; exact bO _ _ _ _ _ _ rfl rfl
 have v3 : V.cell? ⟨w.heap.size, 3, none⟩ = some (.bool false) := by rw [← hV]; exact bO _ _ _ _ _ _ rfl rfl
 have v0b : (V.alloc (.cells #[] 5)).cell? ⟨w.heap.size, 0, none⟩ = some (.slice A NI c) := (((Below.refl V.heap.size V).alloc cV _).cell (p := ⟨w.heap.size, 0, none⟩) (World.block_lt_of_cell? V _ v0)).trans v0
 have Tb : Rd w w.heap.size A (ag .u8 g.img) := H.a.rd
 have hA : ∃ bb off, A = some ⟨bb, off, none⟩ := by
  obtain ⟨b, off, e, _⟩ := Tb (by
   intro e
   have := congrArg List.length e
   rw [aD, nv] at this
   simp at this
   have := yd.out
   omega)
  exact ⟨b, off, e⟩
 obtain ⟨bb, off, rfl⟩ := hA
 have J3 : Hid (Rd w w.heap.size (some ⟨bb, off + 64 * p, none⟩) (ag .u8 (aB g p))) := Tb.part (64 * p) 64
 have zk : Hid ((ag .u8 (aB g p)).length = 64 * 1) := by rw [Hid, aD, fA]
 obtain ⟨i5, rS, jd, jc, jb⟩ := info_parts kz
 have nR : 0 ≤ maxLen := Nat.zero_le _
 have Ba : decide ((p : Int) < 0) = false := by simp
 have rR : decide (T ≤ p) = false := by simp; omega
 have hhi : 64 * p + 64 ≤ NI := by have := yd.out; omega
 have k1 : 64 * (p : Int) ≤ 64 * (p : Int) + 64 := oM
 have k2 : 64 * (p : Int) + 64 ≤ (c : Int) := oM
 have k3 : (0 : Int) ≤ 64 * (p : Int) := oM
 have k4 : (64 * (p : Int)).toNat = 64 * p := oM
 have k5 : (64 * (p : Int) + 64).toNat = 64 * p + 64 := oM
 have k6 : ¬ (c = 64 * p) := oM
 clear hr hd kW hp fA Tb
 go_enter func79, ntmps79
 go_wp2_with (first | (at_builtin; refine aN _ rfl _ _ 32 rfl V.heap.size 5 i5 (.int .u8 0) 1 1 underlying32 rS jd jc jb rfl oM _ 0 [] rfl (World.ownsRow_lit V #[] 0 cV nR rfl) w.heap.size _ 64 _ (ag .u8 (aB g p)) rfl (J3.below (oY.alloc oY.size _) cV) zk (cZ _ _) (by unfold maxLen; omega) oM (by simp) ?_))
 intro v' w2 bY hgrow kg
 have gh : Hid (bW V w2) := ((Below.refl V.heap.size V).alloc cV _).grown hgrow (by simp) (fun k hk => by have hk' : some V.heap.size = some k := hk; injection hk'; omega)
 try simp only [Nat.zero_add, List.nil_append] at bY
 obtain ⟨A2, c2, rfl, uz, nT, nQ⟩ := bM bY
 have HO := iD bY
 clear bY hgrow kg nQ
 go_wp2
 go_ret2
 exact ⟨A2, 64, c2, rfl, lV, uz, nT, cn.new HX oY.size (by rw [aD]; exact lV) HO, oY.trans (gh.mono oY.size)⟩
theorem mS {p : Nat} {b : List Int} (hi : g.img = lay f.img (64 * p) b) (hb : b.length = 64 * m) (hl : 64 * p + 64 * m ≤ f.img.length) (x : Nat) :
 aB g x = if p ≤ x ∧ x < p + m then (b.drop (64 * (x - p))).take 64 else aB f x := by
 apply List.ext_getElem?
 intro i
 have key : (aB g x)[i]? = if i < 64 then (if 64 * p ≤ 64 * x + i ∧ 64 * x + i < 64 * p + b.length then b[64 * x + i - 64 * p]? else f.img[64 * x + i]?) else none := by
  unfold aB
  rw [List.getElem?_take, List.getElem?_drop, hi, mX _ _ _ oM]
 rw [key]
 by_cases EN : i < 64
 ·rw [iP EN]
  by_cases hx : p ≤ x ∧ x < p + m
  ·rw [iP oM, iP hx, List.getElem?_take, iP EN, List.getElem?_drop]
   congr 1
   omega
  rw [iN oM, iN hx]
  unfold aB
  rw [List.getElem?_take, iP EN, List.getElem?_drop]
 rw [iN EN]
 split
 ·rw [List.getElem?_take, iN EN]
 unfold aB
 rw [List.getElem?_take, iN EN]
theorem Ic {a c : Int} (hx : 0 ≤ x ∧ x < 256) (ha : 0 ≤ a ∧ a < 256) (hc : 0 ≤ c ∧ c < 256) : nB (nB x a) c = nB x (nB a c) := by
 obtain ⟨X, rfl⟩ := Int.eq_ofNat_of_zero_le hx.1
 obtain ⟨A, rfl⟩ := Int.eq_ofNat_of_zero_le ha.1
 obtain ⟨C, rfl⟩ := Int.eq_ofNat_of_zero_le hc.1
 have h1 : nB (X : Int) (A : Int) = ((X ||| A : Nat) : Int) := u8_or_nat X A oM oM
 have h2 : nB (A : Int) (C : Int) = ((A ||| C : Nat) : Int) := u8_or_nat A C oM oM
 have l1 : X ||| A < 2 ^ 8 := Nat.or_lt_two_pow oM oM
 have l2 : A ||| C < 2 ^ 8 := Nat.or_lt_two_pow oM oM
 rw [h1, h2]
 unfold nB
 rw [u8_or_nat (X ||| A) C oM oM, u8_or_nat X (A ||| C) oM oM, Nat.or_assoc]
def rH (p : List Int) : Prop := ∃ b m, dw b = true ∧ b.length = 64 ∧ Bytes b ∧ Bytes m ∧ p = eK b m
def Uq (m n : List Int) : List Int := (List.range 64).map fun i => nB (dm m i) (dm n i)
theorem yF {m n : List Int} (hm : Bytes m) (hn : Bytes n) : Bytes (Uq m n) := by
 intro x hx
 unfold Uq at hx
 rw [List.mem_map] at hx
 obtain ⟨i, _, rfl⟩ := hx
 exact nM (eg hm i) (eg hn i)
theorem sj {b m n : List Int} (hl : b.length = 64) (hb : Bytes b) (hm : Bytes m) (hn : Bytes n) : eK (eK b m) n = eK b (Uq m n) := by
 apply List.ext_getElem?
 intro i
 rw [eJ, eJ, eJ]
 cases e : b[i]? with
 | none => rfl
 | some x =>
  have hi : i < 64 := by rw [← hl]; exact (List.getElem?_eq_some_iff.1 e).1
  simp only [Option.map_some]
  congr 1
  have : dm (Uq m n) i = nB (dm m i) (dm n i) := by
   unfold Uq
   conv => lhs; unfold dm
   rw [List.getElem?_map, List.getElem?_range hi]
   rfl
  rw [this, Ic (hb x (List.mem_of_getElem? e)) (eg hm i) (eg hn i)]
theorem Kk {b : List Int} (hb : Bytes b) : eK b [] = b := by
 apply List.ext_getElem?
 intro i
 rw [eJ]
 cases e : b[i]? with
 | none => rfl
 | some x =>
  simp only [Option.map_some]
  congr 1
  exact KN (hb x (List.mem_of_getElem? e))
theorem Bytes.nil : Bytes [] := fun x hx => by simp at hx
theorem rH.Th {b : List Int} (hg : dw b = true) (hl : b.length = 64) (hb : Bytes b) : rH b := ⟨b, [], hg, hl, hb, Bytes.nil, (Kk hb).symm⟩
theorem rH.len (h : rH p) : p.length = 64 := by
 obtain ⟨b, m, _, hl, _, _, rfl⟩ := h
 rw [db, hl]
theorem rH.wP (h : rH p) : Bytes p := by
 obtain ⟨b, m, _, hl, hb, hm, rfl⟩ := h
 exact kr hb hm
theorem rH.eK {n : List Int} (h : rH p) (hn : Bytes n) : rH (eK p n) := by
 obtain ⟨b, m, hg, hl, hb, hm, rfl⟩ := h
 exact ⟨b, Uq m n, hg, hl, hb, yF hm hn, sj hl hb hm hn⟩
theorem rH.fix {n : List Int} (h : rH p) (hn : Bytes n) (hg : dw (YtjdknddnanopaaaGreat.eK p n) = true) : YtjdknddnanopaaaGreat.eK p n = p := by
 obtain ⟨b, m, hgb, hl, hb, hm, rfl⟩ := h
 rw [sj hl hb hm hn] at hg ⊢
 rw [ym hb (yF hm hn) hl hgb, decide_eq_true_eq] at hg
 rw [hg]
 apply List.ext_getElem?
 intro i
 rw [eJ]
 cases e : b[i]? with
 | none => rfl
 | some x =>
  simp only [Option.map_some]
  congr 1
  have hx := hb x (List.mem_of_getElem? e)
  have h1 := (Bs hx (eg hm i)).2.2
  have h2 := (Bs (nM hx (eg hm i)) (eg hn i)).2.2
  have h3 : nB (nB x (dm m i)) (dm n i) = x := by
   have h4 := congrArg (fun l : List Int => l[i]?) hg
   rw [← sj hl hb hm hn] at h4
   simp only [eJ, e, Option.map_some] at h4
   exact Option.some.inj h4
  omega
def cL : List Int := List.replicate 64 255
theorem qx : cL.length = 64 := by simp [cL]
theorem At : Bytes cL := Jb 64 255 oM
theorem KO (hx : 0 ≤ x ∧ x < 256) : nB x 255 = 255 := by
 have h : ∀ n : Fin 256, nB (n.val : Int) 255 = 255 := by decide +kernel
 have := h ⟨x.toNat, oM⟩
 simp only [Int.toNat_of_nonneg hx.1] at this
 exact this
theorem rH.blank : rH cL := by
 refine ⟨eL 1 [0] 0, cL, sR _ _ _, dQ _ _ _, lC _ _ _ oM (by simp), At, ?_⟩
 apply List.ext_getElem?
 intro i
 rw [eJ]
 by_cases hi : i < 64
 ·obtain ⟨x, hx⟩ := getElem?_of_lt (l := eL 1 [0] 0) (k := i) (by rw [dQ]; exact hi)
  have hb : cL[i]? = some 255 := by unfold cL; rw [List.getElem?_replicate, iP hi]
  have hp : dm cL i = 255 := by unfold dm; rw [hb]; rfl
  rw [hx, hb, Option.map_some, hp, KO (lC _ _ _ oM (by simp) x (List.mem_of_getElem? hx))]
 rw [List.getElem?_eq_none (by rw [qx]; omega), List.getElem?_eq_none (by rw [dQ]; omega)]
 rfl
theorem kT : dw cL = false := Jf
theorem iY (h : p.length = 64) : ch p = true ↔ p = cL := by
 unfold ch cL
 constructor
 ·intro hb
  rw [List.all_eq_true] at hb
  rw [← h]
  exact List.eq_replicate_iff.2 ⟨rfl, fun x hx => by simpa using hb x hx⟩
 rintro rfl
 rw [List.all_eq_true]
 intro x hx
 rw [List.mem_replicate] at hx
 simp [hx.2]
def eV (f : Fl) (s : St) (b j : Nat) : Option (Int × List Int) :=
 let d := fg (bT f (aG s f b j) s.k)
 if d.2.2 = 0 ∧ d.2.1.length = s.aw.length then some (d.1, d.2.1) else none
theorem yu {v : List Int} (h : eV f s b j = some (q, v)) :
 bT f (aG s f b j) s.k = dV q v ∧ fU q v.length = 0 ∧ v.length = s.aw.length ∧ (∀ x ∈ v, dI x) ∧ ∀ p ∈ bT f (aG s f b j) s.k, dw p = true := by
 unfold eV at h
 simp only at h
 have hv := sZ (bT f (aG s f b j) s.k)
 have dc := GM (ps := bT f (aG s f b j) s.k)
 generalize fg (bT f (aG s f b j) s.k) = d at *
 split at h
 ·rename_i hc
  injection h with h
  obtain ⟨dq, dv, de⟩ := d
  simp only [Prod.mk.injEq] at h
  obtain ⟨rfl, rfl⟩ := h
  obtain ⟨a, b', c, _⟩ := dc hc.1
  exact ⟨a, b', hc.2, hv, List.all_eq_true.1 c⟩
 cases h
theorem BN {v : List Int} (hp : bT f (aG s f b j) s.k = dV q v) (he : fU q v.length = 0) (hl : v.length = s.aw.length) (hv : ∀ x ∈ v, dI x) : eV f s b j = some (q, v) := by
 unfold eV
 rw [hp, Pe he hv]
 simp [hl]
theorem ks (hi : i < s.k) (hb : dw (aB f (aG s f b j + i)) = false) : eV f s b j = none := by
 cases h : eV f s b j with
 | none => rfl
 | some r =>
  obtain ⟨q, v⟩ := r
  have := (yu h).2.2.2.2 (aB f (aG s f b j + i)) (by
   unfold bT
   rw [List.mem_map]
   exact ⟨i, List.mem_range.2 hi, rfl⟩)
  rw [hb] at this
  cases this
theorem zD (h : ∀ i, i < n → aB g (a + i) = aB f (a + i)) : bT g a n = bT f a n := by
 unfold bT
 apply List.map_congr_left
 intro i hi
 exact h i (List.mem_range.1 hi)
theorem dF (hf : s'.first = s.first) (hs : s'.aw = s.aw) (hp : g.pg = f.pg) (h : ∀ i, i < s.k → aB g (aG s f b j + i) = aB f (aG s f b j + i)) : eV g s' b j = eV f s b j := by
 have hk : s'.k = s.k := by unfold St.k; rw [hs]
 have ha : aG s' g b j = aG s f b j := by unfold aG; rw [hk, hf, hp]
 unfold eV
 rw [ha, hk, zD h, hs]
def eZ (f : Fl) (s : St) : Option (Int × Nat × Nat × List Int) → Prop
 | none => ∀ b j, b < s.aa → j < bm s f → eV f s b j = none
 | some (q, b, j, v) => b < s.aa ∧ j < bm s f ∧ eV f s b j = some (q, v) ∧ ∀ b' j' q' v', b' < s.aa → j' < bm s f → eV f s b' j' = some (q', v') → (b' = b ∧ j' = j) ∨ q' < q
theorem zH (f : Fl) (s : St) (b j : Nat) : cT f s b j = match eV f s b j with
 | some (q, v) => if q ≤ s.seq then s else { s with seq := q, block := b, slot := j, saved := ez s.aw v }
 | none => s := by
 obtain ⟨d, hd⟩ := ex (fg (bT f (aG s f b j) s.k))
 by_cases h : d.2.2 = 0 ∧ d.2.1.length = s.aw.length
 ·have hr : eV f s b j = some (d.1, d.2.1) := by unfold eV; rw [hd]; exact iP h
  rw [hr]
  simp only
  by_cases hq : d.1 ≤ s.seq
  ·rw [iP hq, iv hd (.inr (.inr hq))]
  rw [iN hq, j9 hd oM]
 have hr : eV f s b j = none := by unfold eV; rw [hd]; exact iN h
 rw [hr]
 refine iv hd ?_
 by_cases h0 : d.2.2 = 0
 ·exact .inr (.inl (fun e => h ⟨h0, e⟩))
 exact .inl h0
def AA (f : Fl) (s0 : St) (P : Nat → Nat → Prop) (a : St) : Prop :=
 (a = s0 ∧ ∀ b j, P b j → eV f s0 b j = none) ∨
 ∃ q b j v, P b j ∧ eV f s0 b j = some (q, v) ∧ a = { s0 with seq := q, block := b, slot := (j : Int), saved := ez s0.aw v } ∧ ∀ b' j' q' v', P b' j' → eV f s0 b' j' = some (q', v') → q' ≤ q
theorem AA.step {a : St} {P : Nat → Nat → Prop} (h0 : s0.seq = 0) (h : AA f s0 P a) (b j : Nat) : AA f s0 (fun b' j' => P b' j' ∨ (b' = b ∧ j' = j)) (cT f a b j) := by
 have lh : eV f a b j = eV f s0 b j := by
  rcases h with ⟨rfl, _⟩ | ⟨q, b1, j1, v, _, _, rfl, _⟩
  ·rfl
  exact dF rfl rfl rfl (fun _ _ => rfl)
 rw [zH, lh]
 cases hr : eV f s0 b j with
 | none =>
  rcases h with ⟨rfl, hn⟩ | ⟨q, b1, j1, v, hp, hq, rfl, hm⟩
  ·refine .inl ⟨rfl, fun b' j' h' => ?_⟩
   rcases h' with h' | ⟨rfl, rfl⟩
   ·exact hn b' j' h'
   exact hr
  refine .inr ⟨q, b1, j1, v, .inl hp, hq, rfl, fun b' j' q' v' h' hq' => ?_⟩
  rcases h' with h' | ⟨rfl, rfl⟩
  ·exact hm b' j' q' v' h' hq'
  rw [hr] at hq'; cases hq'
 | some r =>
  obtain ⟨qr, vr⟩ := r
  simp only
  have Cp := (ko (yu hr).2.1).1
  rcases h with ⟨rfl, hn⟩ | ⟨q, b1, j1, v, hp, hq, rfl, hm⟩
  ·rw [iN oM]
   refine .inr ⟨qr, b, j, vr, .inr ⟨rfl, rfl⟩, hr, rfl, fun b' j' q' v' h' hq' => ?_⟩
   rcases h' with h' | ⟨rfl, rfl⟩
   ·rw [hn b' j' h'] at hq'; cases hq'
   rw [hr] at hq'
   injection hq' with hq'
   simp only [Prod.mk.injEq] at hq'
   omega
  simp only
  by_cases hle : qr ≤ q
  ·rw [iP hle]
   refine .inr ⟨q, b1, j1, v, .inl hp, hq, rfl, fun b' j' q' v' h' hq' => ?_⟩
   rcases h' with h' | ⟨rfl, rfl⟩
   ·exact hm b' j' q' v' h' hq'
   rw [hr] at hq'
   injection hq' with hq'
   simp only [Prod.mk.injEq] at hq'
   omega
  rw [iN hle]
  refine .inr ⟨qr, b, j, vr, .inr ⟨rfl, rfl⟩, hr, rfl, fun b' j' q' v' h' hq' => ?_⟩
  rcases h' with h' | ⟨rfl, rfl⟩
  ·have := hm b' j' q' v' h' hq'
   omega
  rw [hr] at hq'
  injection hq' with hq'
  simp only [Prod.mk.injEq] at hq'
  omega
theorem AA.cU {a : St} {P Q : Nat → Nat → Prop} (h : AA f s0 P a) (hPQ : ∀ b j, P b j ↔ Q b j) : AA f s0 Q a := by
 have : P = Q := funext fun b => funext fun j => propext (hPQ b j)
 rw [← this]
 exact h
theorem Kt {a : St} (h0 : s0.seq = 0) (h : AA f s0 (fun b' j' => b' < b ∧ j' < T) a) (hn : n ≤ T) :
 AA f s0 (fun b' j' => (b' < b ∧ j' < T) ∨ (b' = b ∧ j' < n)) (ee f b a n) := by
 induction n with
 | zero => exact h.cU (fun b' j' => oM)
 | succ n ih =>
  rw [dR]
  exact ((ih oM).step h0 b n).cU (fun b' j' => oM)
theorem Ku (h0 : s0.seq = 0) (m : Nat) : AA f s0 (fun b' j' => b' < m ∧ j' < T) (cR f T s0 m) := by
 induction m with
 | zero => exact .inl ⟨rfl, fun b j h => oM⟩
 | succ m ih =>
  rw [fa]
  exact (Kt h0 ih (Nat.le_refl T)).cU (fun b' j' => oM)
theorem kx (h0 : s0.seq = 0) {cur : Option (Int × Nat × Nat × List Int)} (hn : eZ f s0 cur) :
 cR f (bm s0 f) s0 s0.aa = match cur with
  | none => s0
  | some (q, b, j, v) => { s0 with seq := q, block := b, slot := (j : Int), saved := ez s0.aw v } := by
 have h := Ku (f := f) (T := bm s0 f) h0 s0.aa
 cases cur with
 | none =>
  rcases h with ⟨e, _⟩ | ⟨q, b, j, v, hp, hq, _, _⟩
  ·exact e
  rw [hn b j hp.1 hp.2] at hq; cases hq
 | some c =>
  obtain ⟨q, b, j, v⟩ := c
  obtain ⟨n1, n2, n3, n4⟩ := hn
  rcases h with ⟨_, hx⟩ | ⟨q', b', j', v', hp, hq, e, hm⟩
  ·rw [hx b j ⟨n1, n2⟩] at n3; cases n3
  have h1 := hm b j q v ⟨n1, n2⟩ n3
  rcases n4 b' j' q' v' hp.1 hp.2 hq with ⟨rfl, rfl⟩ | aY
  ·rw [n3] at hq
   injection hq with hq
   simp only [Prod.mk.injEq] at hq
   obtain ⟨rfl, rfl⟩ := hq
   exact e
  omega
def J9 : Value := .agg #[.int .i64 0, .int .i64 0, .slice none 0 0, .slice none 0 0, .slice none 0 0, .int .i64 0, .int .i64 0, .int .i64 0, .slice none 0 0, .slice none 0 0, .int .i64 0, .int .i64 0, .int .i64 0, .int .i64 0, .bool false]
def rL (fi bl : Int) (Q : Option Addr) (n cq : Nat) (Qs : Option Addr) (N cs : Nat) (seq gf slot : Int) : List Value :=
 [.int .i64 fi, .int .i64 bl, .slice Q n cq, .slice none 0 0, .slice Qs N cs, .int .i64 seq, .int .i64 gf, .int .i64 slot, .slice none 0 0, .slice none 0 0, .int .i64 0, .int .i64 (-1), .int .i64 0, .int .i64 0, .bool false]
def zL : List Value := [.int .i64 0, .int .i64 0, .slice none 0 0, .slice none 0 0, .slice none 0 0, .int .i64 0, .int .i64 0, .int .i64 0, .slice none 0 0, .slice none 0 0, .int .i64 0, .int .i64 0, .int .i64 0, .int .i64 0, .bool false]
structure qC (w wr : World) (D4 D8 D : Nat) (x : Rc) (g : Fl) (fi bl : Int) (Q : Option Addr) (n cq : Nat) (sp : List eB) (Qs : Option Addr) (cs : Nat) (raw : List Int) (seq gf slot : Int) : Prop where
 below : bW w wr
 o4 : wr.ownsRow w.heap.size 35 6 (.slice (some ⟨D4, 0, none⟩) 1 1) 1 (x.l g)
 o8 : wr.ownsRow w.heap.size 43 15 (.slice (some ⟨D8, 0, none⟩) 1 1) 1 zL
 o : wr.ownsRow w.heap.size 43 15 (.slice (some ⟨D, 0, none⟩) 1 1) 1 (rL fi bl Q n cq Qs raw.length cs seq gf slot)
 sp : wr.ownsRow w.heap.size 132 3 (.slice Q n cq) n (bK sp)
 sv : wr.ownsRow w.heap.size 3 1 (.slice Qs raw.length cs) raw.length (aA raw)
 ne : D8 ≠ D
section
variable {w wr : World} {D4 D8 D n cq cs : Nat} {x : Rc} {g : Fl} {fi bl seq gf slot : Int} {Q Qs : Option Addr} {sp : List eB} {raw : List Int}
theorem qC.ab (h : qC w wr D4 D8 D x g fi bl Q n cq sp Qs cs raw seq gf slot) (hb : bW wr w') : qC w w' D4 D8 D x g fi bl Q n cq sp Qs cs raw seq gf slot :=
 ⟨h.below.trans (hb.mono h.below.size), aC h.o4 hb, aC h.o8 hb, aC h.o hb, aC h.sp hb, aC h.sv hb, h.ne⟩
theorem qC.row (h : qC w wr D4 D8 D x g fi bl Q n cq sp Qs cs raw seq gf slot) (j : Nat) (u : Value) (hj : (rL fi bl Q n cq Qs raw.length cs seq gf slot)[j]? = some u) : wr.cell? ⟨D, j, none⟩ = some u := by
 have aY : j < 15 := by
  have := (List.getElem?_eq_some_iff.1 hj).1
  simpa [rL] using this
 rw [h.o.cellAt j oM]
 exact hj
theorem qC.fz (h : qC w wr D4 D8 D x g fi bl Q n cq sp Qs cs raw seq gf slot) (j : Nat) : wr.frozen? ⟨D, j, none⟩ = false := h.o.frozenAt _
theorem qC.ll (h : qC w wr D4 D8 D x g fi bl Q n cq sp Qs cs raw seq gf slot) (j : Nat) (u : Value) (hj : (x.l g)[j]? = some u) : wr.cell? ⟨D4, j, none⟩ = some u := by
 have aY : j < 6 := by
  have := (List.getElem?_eq_some_iff.1 hj).1
  simpa [Rc.l] using this
 rw [h.o4.cellAt j oM]
 exact hj
theorem qC.pQ (h : qC w wr D4 D8 D x g fi bl Q n cq sp Qs cs raw seq gf slot) (j : Nat) (u : Value) (hj : zL[j]? = some u) : wr.cell? ⟨D8, j, none⟩ = some u := by
 have aY : j < 15 := by
  have := (List.getElem?_eq_some_iff.1 hj).1
  simpa [zL] using this
 rw [h.o8.cellAt j oM]
 exact hj
theorem qC.cell (h : qC w wr D4 D8 D x g fi bl Q n cq sp Qs cs raw seq gf slot) (j : Nat) (u : Value) {Qs' : Option Addr} {cs' : Nat} {raw' : List Int} {seq' blk' slot' : Int} 
 (hc : (rL fi bl Q n cq Qs raw.length cs seq gf slot).set j u = rL fi bl Q n cq Qs' raw'.length cs' seq' blk' slot')
 (fL : wr.ownsRow w.heap.size 3 1 (.slice Qs' raw'.length cs') raw'.length (aA raw')) : qC w (wr.setCell ⟨D, j, none⟩ u) D4 D8 D x g fi bl Q n cq sp Qs' cs' raw' seq' blk' slot' := by
 have h1 := h.o.stored j u
 have hD := (h.o.lt _ rfl).1
 refine ⟨h.below.setCell (p := ⟨D, j, none⟩) hD _, bN h.o4 h1.2 (fun g hg e => aL h.o h.o4 (by decide) g e hg), ?_, by rw [← hc]; exact h1.1, bN h.sp h1.2 (fun g hg e => aL h.o h.sp (by decide) g e hg), bN fL h1.2 (fun g hg e => aL h.o fL (by decide) g e hg), h.ne⟩
 refine bN h.o8 h1.2 (fun g' hg e => ?_)
 have e1 : D8 = g' := by simpa [Value.ownBlock] using hg
 have e2 : D = g' := by simpa using e
 exact h.ne (e1.trans e2.symm)
end
theorem vH {cs : Array Value} {xs : List Value} (hc : cs.toList = xs) (hl : xs.length = size) (hb : base ≤ w.heap.size) :
 (w.alloc (.cells cs e)).ownsRow base e size (.slice (some ⟨w.heap.size, 0, none⟩) 1 1) 1 xs := Gj hc hl hb
theorem Rd.Gf {l : List eB} (h : Rd w B A (bK l)) {p : eB} (hp : l[k]? = some p) :
 ∃ b off, A = some ⟨b, off, none⟩ ∧ w.cell? ⟨b, off + k * 3, none⟩ = some (.int .i64 p.lo) ∧ w.cell? ⟨b, off + k * 3 + 1, none⟩ = some (.int .i64 p.hi) ∧ w.cell? ⟨b, off + k * 3 + 2, none⟩ = some (.int .i64 p.df) := by
 have key : ∀ j u, p.cells[j]? = some u → (bK l)[k * 3 + j]? = some u := fun j u hu => flat_get eB.cells 3 (fun _ => rfl) l k j p u hp hu
 obtain ⟨b, off, e, aY, hc⟩ := h (by
  intro e
  have := key 0 _ rfl
  rw [e] at this
  simp at this)
 exact ⟨b, off, e, hc _ _ (key 0 _ rfl), hc _ _ (key 1 _ rfl), hc _ _ (key 2 _ rfl)⟩
section
variable {w wr : World} {D4 D8 D n cq cs : Nat} {x : Rc} {g : Fl} {fi bl seq gf slot : Int} {Q Qs : Option Addr} {sp : List eB} {raw : List Int}
theorem qC.push (h : qC w wr D4 D8 D x g fi bl Q n cq sp Qs cs raw seq gf slot) 
 (ho : W'.ownsRow w.heap.size 3 1 v' (raw.length + 1) (aA (raw ++ [y]))) (hg : (wr.alloc o).grownBy W' (Value.slice Qs raw.length cs).ownBlock) :
 ∃ Qs' cs', v' = .slice Qs' (raw.length + 1) cs' ∧ (∀ j u, j ≠ 4 → wr.cell? ⟨D, j, none⟩ = some u → W'.cell? ⟨D, j, none⟩ = some u) ∧ W'.frozen? ⟨D, 4, none⟩ = false ∧ W'.cell? ⟨D, 4, none⟩ = some (.slice Qs raw.length cs) ∧ qC w (W'.setCell ⟨D, 4, none⟩ (.slice Qs' (raw.length + 1) cs')) D4 D8 D x g fi bl Q n cq sp Qs' cs' (raw ++ [y]) seq gf slot := by
 have hb : bW wr (wr.alloc o) := bV.alloc cV o
 have h1 := h.ab hb
 obtain ⟨Qs', cs', rfl, _, _, _⟩ := a9 ho
 have V3 := bN h1.o4 hg (fun g' du e' => aL h1.sv h1.o4 (by decide) g' e' du)
 have iH := bN h1.o8 hg (fun g' du e' => aL h1.sv h1.o8 (by decide) g' e' du)
 have QE := bN h1.o hg (fun g' du e' => aL h1.sv h1.o (by decide) g' e' du)
 have gT := bN h1.sp hg (fun g' du e' => aL h1.sv h1.sp (by decide) g' e' du)
 have cB : bW w W' := h1.below.grown hg h1.below.size (fun k hk => (h1.sv.lt k hk).1)
 have dX := QE.stored 4 (.slice Qs' (raw.length + 1) cs')
 have hD := (QE.lt _ rfl).1
 have ED : ∀ j, W'.cell? ⟨D, j, none⟩ = (wr.alloc o).cell? ⟨D, j, none⟩ ∨ 15 ≤ j := by
  intro j
  by_cases hj : j < 15
  ·left
   rw [QE.cellAt j oM, h1.o.cellAt j oM]
  exact .inr oM
 refine ⟨Qs', cs', rfl, fun j u _ hu => ?_, QE.frozenAt _, ?_, cB.setCell (p := ⟨D, 4, none⟩) hD _, bN V3 dX.2 (fun g hg e => aL QE V3 (by decide) g e hg), ?_, ?_, bN gT dX.2 (fun g hg e => aL QE gT (by decide) g e hg), ?_, h.ne⟩
 ·have ql := (hb.cell (p := ⟨D, j, none⟩) (h.o.lt _ rfl).2).trans hu
  rcases ED j with e | e
  ·exact e.trans ql
  exfalso
  have h15 := h1.o.2
  rcases h15 with ⟨e1, _⟩ | ⟨g1, cap, cur, e1, _, hgc, _, _, kX, _⟩
  ·cases e1
  injection e1 with e2 _ e4
  injection e2 with e2
  injection e2 with e2
  subst e2
  subst e4
  rw [cell_of_row _ D j cur 43 (0, 0) hgc] at ql
  have : j < cur.size := by
   have := (Array.getElem?_eq_some_iff.1 ql).1
   exact this
  omega
 ·rw [QE.cellAt 4 oM]
  rfl
 ·refine bN iH dX.2 (fun g' hg e => ?_)
  have e1 : D8 = g' := by simpa [Value.ownBlock] using hg
  have e2 : D = g' := by simpa using e
  exact h.ne (e1.trans e2.symm)
 ·have e : (rL fi bl Q n cq Qs raw.length cs seq gf slot).set 4 (.slice Qs' (raw.length + 1) cs') = rL fi bl Q n cq Qs' (raw ++ [y]).length cs' seq gf slot := by
   simp [rL]
  rw [← e]
  exact dX.1
 have hl : (raw ++ [y]).length = raw.length + 1 := by simp
 rw [hl]
 exact bN ho dX.2 (fun g hg e => aL QE ho (by decide) g e hg)
end
structure Jp (w wr : World) (v : Value) (vs : List Value) (ps : List (List Int)) : Prop where
 own : wr.ownsRow w.heap.size 32 1 v ps.length vs
 pg : ∀ (t : Nat) p, ps[t]? = some p → ∃ Q m c, vs[t]? = some (.slice Q m c) ∧ p.length = m ∧ m ≤ c ∧ c ≤ maxLen ∧ cn (fun b => v.ownBlock = some b) wr Q (ag .u8 p)
theorem Jp.nil {wr : World} : Jp w wr (.slice none 0 0) [] [] := ⟨World.ownsRow_nil _ _ _ _, fun t p h => by simp at h⟩
theorem Jp.ab {wr : World} (h : Jp w wr v vs ps) (hb : bW wr w') : Jp w w' v vs ps := by
 refine ⟨aC h.own hb, fun t p hp => ?_⟩
 obtain ⟨Q, m, c, a1, a2, a3, a4, a5⟩ := h.pg t p hp
 exact ⟨Q, m, c, a1, a2, a3, a4, a5.below hb⟩
theorem yx {xs : List Value} (h : cn (fun b => v.ownBlock = some b) w A xs) (hg : w.grownBy w' v.ownBlock) (hv : v'.ownBlock = v.ownBlock ∨ v'.ownBlock = some w.heap.size) : cn (fun b => v'.ownBlock = some b) w' A xs := fun hx => by
 obtain ⟨b, off, e, aY, hn, hc⟩ := h hx
 refine ⟨b, off, e, Nat.lt_of_lt_of_le aY hg.size, fun hb => ?_, fun j u hu => (cell_of_block (hg.block b aY (fun e' => hn e'.symm))).trans (hc j u hu)⟩
 rcases hv with e1 | e1
 ·rw [e1] at hb
  exact hn hb
 rw [e1] at hb
 injection hb with hb
 omega
theorem Jp.push {Q : Option Addr} (h : Jp w W v vs ps) (hp : cn (fun b => v.ownBlock = some b) W Q (ag .u8 p)) (h1 : p.length = m) (h2 : m ≤ c) (h3 : c ≤ maxLen) 
 (ho : W'.ownsRow w.heap.size 32 1 v' (ps.length + 1) (vs ++ [.slice Q m c])) (hg : (W.alloc o).grownBy W' v.ownBlock) (hv : v'.ownBlock = v.ownBlock ∨ v'.ownBlock = some (W.alloc o).heap.size) : Jp w W' v' (vs ++ [.slice Q m c]) (ps ++ [p]) := by
 have hb : bW W (W.alloc o) := bV.alloc cV o
 have hL := h.ab hb
 have Ip : vs.length = ps.length := by have := h.own.1; simpa using this
 refine ⟨by rw [List.length_append]; exact ho, fun t q hq => ?_⟩
 by_cases e : t < ps.length
 ·rw [List.getElem?_append_left e] at hq
  obtain ⟨Q', m', c', a1, a2, a3, a4, a5⟩ := hL.pg t q hq
  exact ⟨Q', m', c', by rw [List.getElem?_append_left oM]; exact a1, a2, a3, a4, yx a5 hg hv⟩
 have e2 : t = ps.length := by
  have := (List.getElem?_eq_some_iff.1 hq).1
  simp at this
  omega
 subst e2
 rw [List.getElem?_append_right cV, Nat.sub_self] at hq
 simp at hq
 subst hq
 exact ⟨Q, m, c, by rw [List.getElem?_append_right oM, Ip, Nat.sub_self]; rfl, h1, h2, h3, yx (hp.below hb) hg hv⟩
theorem Jp.rd {wr : World} (h : Jp w wr (.slice A k c) vs ps) : lT (fun _ => False) wr A ps := by
 have Ip : vs.length = ps.length := by have := h.own.1; simpa using this
 refine ⟨vs, ?_, Ip, fun t p hp => ?_⟩
 ·obtain ⟨A', c', e, _, _, hr⟩ := bM h.own
  injection e with e1 _ _
  rw [e1]
  exact fun hx => by
   obtain ⟨b, off, e2, aY, hc⟩ := hr hx
   exact ⟨b, off, e2, aY, fun h => h, hc⟩
 obtain ⟨Q, m, c, a1, a2, a3, a4, a5⟩ := h.pg t p hp
 exact ⟨Q, m, c, a1, a2, a3, a4, a5.dS (fun _ _ h => h.elim)⟩
theorem ca.high {x : Rc} (h : ca X w x g) (hb : bW w w') (hY : ∀ b, Y b → w.heap.size ≤ b) : ca Y w' x g := by
 have key : ∀ A xs, cn X w A xs → cn Y w' A xs := fun A xs hr hx => by
  obtain ⟨b, off, e, aY, _, hc⟩ := hr hx
  exact ⟨b, off, e, Nat.lt_of_lt_of_le aY hb.size, fun hy => by have := hY b hy; omega, fun j u hu => (hb.cell (p := ⟨b, off + j, none⟩) aY).trans (hc j u hu)⟩
 exact ⟨h.ok, key _ _ h.a, h.a1, h.a2, key _ _ h.b, h.b1, h.b2, key _ _ h.p, h.p1, h.p2⟩
section
variable {w wr : World} {D4 D8 D n cq cs : Nat} {x : Rc} {g : Fl} {fi bl seq gf slot : Int} {Q Qs : Option Addr} {sp : List eB} {raw : List Int}
theorem qC.beside (h : qC w wr D4 D8 D x g fi bl Q n cq sp Qs cs raw seq gf slot) (hv : wr.ownsRow w.heap.size 32 1 v k vs) (hg : wr.grownBy w' v.ownBlock) : qC w w' D4 D8 D x g fi bl Q n cq sp Qs cs raw seq gf slot :=
 ⟨h.below.grown hg h.below.size (fun k hk => (hv.lt k hk).1), bN h.o4 hg (fun g' du e' => aL hv h.o4 (by decide) g' e' du), bN h.o8 hg (fun g' du e' => aL hv h.o8 (by decide) g' e' du),
  bN h.o hg (fun g' du e' => aL hv h.o (by decide) g' e' du), bN h.sp hg (fun g' du e' => aL hv h.sp (by decide) g' e' du), bN h.sv hg (fun g' du e' => aL hv h.sv (by decide) g' e' du), h.ne⟩
end
structure AD (s : St) (raw : List Int) (seq gf slot : Int) : Prop where
 rq : seq = s.seq
 rb : gf = s.block
 rs : slot = s.slot
 rl : raw.length = s.aw.length
 rg : ez s.aw raw = s.saved
theorem AD.no {raw : List Int} {seq slot : Int} (h : AD s raw seq gf slot) {d : Int × List Int × Int} (hd : fg (bT f (aG s f b j) s.k) = d) (hn : d.2.2 ≠ 0 ∨ d.2.1.length ≠ s.aw.length ∨ d.1 ≤ s.seq) : AD (cT f s b j) raw seq gf slot := by
 rw [iv hd hn]
 exact h
theorem AD.yes {raw : List Int} {seq slot : Int} (h : AD s raw seq gf slot) {d : Int × List Int × Int} (hd : fg (bT f (aG s f b j) s.k) = d) (hn : ¬ (d.2.2 ≠ 0 ∨ d.2.1.length ≠ s.aw.length ∨ d.1 ≤ s.seq)) : AD (cT f s b j) d.2.1 d.1 b j := by
 subst hd
 unfold cT
 simp only
 rw [iN hn]
 exact ⟨rfl, rfl, rfl, by simp only; omega, rfl⟩
theorem OV (x : Rc) (g : Fl) (fi bl : Int) (f : Nat) (Q : Option Addr) (n cq : Nat) (Qs : Option Addr) (N cs : Nat) (seq gf slot : Int) (b j : Nat) (w : World) (hf : fi = f) (Nr : f ≤ 64) (hb : b ≤ 64) (hj : j ≤ 64) (hn : n ≤ 48) (hp : g.pg ≤ 16) :
 Calls prog 81 #[.agg (rL fi bl Q n cq Qs N cs seq gf slot).toArray, x.v g, .int .i64 b, .int .i64 j] w fun e w' => e = .returned (.int .i64 (((f + b) * g.pg + j * cN n : Nat) : Int)) ∧ bW w w' := by
 subst hf
 obtain ⟨B, cc, D, d, P, r⟩ := x
 show Calls prog 81 #[.agg #[.int .i64 (f : Int), .int .i64 bl, .slice Q n cq, .slice none 0 0, .slice Qs N cs, .int .i64 seq, .int .i64 gf, .int .i64 slot, .slice none 0 0, .slice none 0 0, .int .i64 0, .int .i64 (-1), .int .i64 0, .int .i64 0, .bool false], .agg #[.slice B g.img.length cc, .int .i64 g.pg, .slice D g.ar.length d, .bool g.aF, .int .i64 g.be, .slice P g.az.length r], _, _] w _
 have jh : Hid (∀ w, Calls prog 80 #[.int .i64 (n : Int)] w fun e w' => e = .returned (.int .i64 (cN n : Nat)) ∧ w' = w) := fun w => (oF n oM w).mono fun _ _ h => ⟨h.1, h.2.symm⟩
 have jE := jL hn
 obtain ⟨K, hK⟩ := ex (cN n)
 obtain ⟨pg, iA⟩ := ex g.pg
 obtain ⟨fb, DB⟩ := ex (f + b)
 obtain ⟨M1, Ab⟩ := ex (fb * pg)
 obtain ⟨M2, CB⟩ := ex (j * K)
 rw [hK] at jh jE
 rw [iA] at hp
 have WL : M1 ≤ 128 * 16 := by rw [← Ab]; exact Nat.mul_le_mul oM hp
 have aaO : M2 ≤ 64 * 8 := by rw [← CB]; exact Nat.mul_le_mul hj jE
 rw [hK, iA, DB, Ab, CB]
 have t1 : IntKind.i64.wrap ((f : Int) + (b : Int)) = (fb : Int) := by rw [show (f : Int) + (b : Int) = (fb : Int) by omega]; exact bf _ oM oM
 have t2 : IntKind.i64.wrap ((fb : Int) * (pg : Int)) = (M1 : Int) := by
  have e : (fb : Int) * (pg : Int) = (M1 : Int) := by rw [← Ab]; push_cast; rfl
  rw [e]
  exact bf _ oM oM
 have t3 : IntKind.i64.wrap ((j : Int) * (K : Int)) = (M2 : Int) := by
  have e : (j : Int) * (K : Int) = (M2 : Int) := by rw [← CB]; push_cast; rfl
  rw [e]
  exact bf _ oM oM
 have t4 : IntKind.i64.wrap ((M1 : Int) + (M2 : Int)) = ((M1 + M2 : Nat) : Int) := by
  have e : (M1 : Int) + (M2 : Int) = ((M1 + M2 : Nat) : Int) := by push_cast; rfl
  rw [e]
  exact bf _ oM oM
 generalize M1 + M2 = M at *
 clear hK iA DB Ab CB
 go_enter func81, ntmps81
 go_wp2
 go_quiet ((go_at_call 80; with_reducible exact Calls.quiet_of_same (jh.out _)))
 go_wp2
 go_ret
 exact ⟨rfl, Below.drewN (ck _ _ _) _⟩
theorem nf (f : Fl) : ((dy f).2 = true ∧ (dy f).1.aF = true) ∨ ((dy f).2 = false ∧ (dy f).1.aF = f.aF) := by
 unfold dy
 split
 ·exact .inl ⟨rfl, rfl⟩
 split
 ·exact .inr ⟨rfl, rfl⟩
 exact .inr ⟨rfl, rfl⟩
theorem KJ (hf : f.ok) (hP : P < f.ar.length * f.pg) : 64 * P + 64 * 1 ≤ f.img.length := by rw [hf.len]; omega
structure Xo (f g : Fl) (P : Nat) (b : List Int) (c : Int) : Prop where
 pg : g.pg = f.pg
 ar : g.ar = f.ar
 ok : (c = 0 ∧ g.aF = false ∧ ∀ x, aB g x = if x = P then b else aB f x) ∨ (c = 20 ∧ g.aF = true ∧ ∀ x, aB g x = if x = P then eK b f.az else aB f x)
theorem pZ (hf : f.ok) (hd : f.aF = false) (hP : P < f.ar.length * f.pg) {b : List Int} (hb : b.length = 64) (cB : aB f P = cL) :
 Xo f (bz f (P : Int) b).1 P b (bz f (P : Int) b).2 := by
 have h0 : lY f (P : Int) = 0 := by unfold lY; rw [hd, iN (by decide), iN oM]
 have sQ : ch (aB f P) = true := (iY (by rw [cB, qx])).2 cB
 obtain ⟨e1, e2, e3, e4⟩ := dY f
 have gG := KJ hf hP
 have key : bz f (P : Int) b = if (dy f).2 = true then ({ (dy f).1 with img := lay f.img (64 * P) (eK b f.az) }, 20) else ({ (dy f).1 with img := lay f.img (64 * P) b }, 0) := by
  unfold bz
  rw [iN (by rw [h0]; decide), iN oM, Int.toNat_natCast, iN (by rw [sQ]; decide)]
 rw [key]
 rcases nf f with ⟨c1, c2⟩ | ⟨c1, c2⟩
 ·rw [c1, iP rfl]
  refine ⟨e1, e3, .inr ⟨rfl, c2, fun x => ?_⟩⟩
  rw [mS (f := f) (p := P) (m := 1) rfl (by rw [db, hb]) gG]
  by_cases hx : x = P
  ·subst hx
   rw [iP oM, iP rfl, Nat.sub_self, Nat.mul_zero, List.drop_zero, List.take_of_length_le (by rw [db]; omega)]
  rw [iN oM, iN hx]
 rw [c1, iN (by decide)]
 refine ⟨e1, e3, .inl ⟨rfl, c2.trans hd, fun x => ?_⟩⟩
 rw [mS (f := f) (p := P) (m := 1) rfl (by rw [hb]) gG]
 by_cases hx : x = P
 ·subst hx
  rw [iP oM, iP rfl, Nat.sub_self, Nat.mul_zero, List.drop_zero, List.take_of_length_le oM]
 rw [iN oM, iN hx]
structure Uc (f g : Fl) (B : Nat) (c : Int) : Prop where
 pg : g.pg = f.pg
 ar : g.ar = fc f.ar B
 ok : (c = 0 ∧ g.aF = false ∧ ∀ x, aB g x = if B * f.pg ≤ x ∧ x < B * f.pg + f.pg then cL else aB f x) ∨
  (c = 20 ∧ g.aF = true ∧ ∀ x, aB g x = if B * f.pg ≤ x ∧ x < B * f.pg + f.pg then eK (aB f x) (f.az.drop (64 * (x - B * f.pg))) else aB f x)
theorem n7 (hf : f.ok) (hd : f.aF = false) (hB : B < f.ar.length) : Uc f (aR f (B : Int)).1 B (aR f (B : Int)).2 := by
 obtain ⟨e1, e2, e3, e4⟩ := dY f
 have nD : B * f.pg + f.pg ≤ f.ar.length * f.pg := by
  have := Nat.mul_le_mul_right f.pg (show B + 1 ≤ f.ar.length by omega)
  rw [Nat.add_mul, Nat.one_mul] at this
  exact this
 have gG : 64 * (B * f.pg) + 64 * f.pg ≤ f.img.length := by rw [hf.len]; omega
 have Wr : 64 * f.pg * B = 64 * (B * f.pg) := by rw [Nat.mul_assoc, Nat.mul_comm f.pg B]
 have key : aR f (B : Int) = if (dy f).2 = true then ({ (dy f).1 with img := lay f.img (64 * (B * f.pg)) (eK ((f.img.drop (64 * (B * f.pg))).take (64 * f.pg)) f.az), ar := fc f.ar B }, 20)
  else ({ (dy f).1 with img := lay f.img (64 * (B * f.pg)) (List.replicate (64 * f.pg) 255), ar := fc f.ar B }, 0) := by
  unfold aR
  rw [iN (by rw [hd]; decide), iN oM, Int.toNat_natCast, Wr]
 rw [key]
 have hlen : ((f.img.drop (64 * (B * f.pg))).take (64 * f.pg)).length = 64 * f.pg := by rw [List.length_take, List.length_drop]; omega
 rcases nf f with ⟨c1, c2⟩ | ⟨c1, c2⟩
 ·rw [c1, iP rfl]
  refine ⟨e1, rfl, .inr ⟨rfl, c2, fun x => ?_⟩⟩
  rw [mS (f := f) (p := B * f.pg) (m := f.pg) rfl (by rw [db, hlen]) gG]
  by_cases hx : B * f.pg ≤ x ∧ x < B * f.pg + f.pg
  ·rw [iP hx, iP hx, sm, sk]
   congr 1
   unfold aB
   rw [List.drop_take, List.drop_drop, List.take_take]
   congr 1
   ·omega
   congr 1
   omega
  rw [iN hx, iN hx]
 rw [c1, iN (by decide)]
 refine ⟨e1, rfl, .inl ⟨rfl, c2.trans hd, fun x => ?_⟩⟩
 rw [mS (f := f) (p := B * f.pg) (m := f.pg) rfl (by rw [List.length_replicate]) gG]
 by_cases hx : B * f.pg ≤ x ∧ x < B * f.pg + f.pg
 ·rw [iP hx, iP hx, List.drop_replicate, List.take_replicate]
  unfold cL
  congr 1
  omega
 rw [iN hx, iN hx]
theorem wT (hf : f.ok) (h : a + n ≤ f.ar.length * f.pg) : cG f a n = true ↔ ∀ i, i < n → aB f (a + i) = cL := by
 unfold cG
 rw [List.all_eq_true]
 constructor
 ·intro hb i hi
  exact (iY (kj hf oM)).1 (hb i (List.mem_range.2 hi))
 intro hb i hi
 have Cu := List.mem_range.1 hi
 exact (iY (kj hf oM)).2 (hb i Cu)
theorem split_mul {p a' r r' : Nat} (h : a * p + r = a' * p + r') (hr : r < p) (hr' : r' < p) : a = a' ∧ r = r' := by
 have h1 : (a * p + r) / p = a := by rw [Nat.mul_comm, Nat.mul_add_div oM, Nat.div_eq_of_lt hr]; omega
 have h2 : (a' * p + r') / p = a' := by rw [Nat.mul_comm, Nat.mul_add_div oM, Nat.div_eq_of_lt hr']; omega
 have e : a = a' := by rw [← h1, ← h2, h]
 subst e
 exact ⟨rfl, oM⟩
theorem bC.Ks (h : bC f s) {b' j' i' : Nat} (hj : j < bm s f) (hj' : j' < bm s f) (hi : i < s.k) (Cu : i' < s.k) (e : aG s f b j + i = aG s f b' j' + i') : b = b' ∧ j = j' ∧ i = i' := by
 have h1 := h.qL hj
 have h2 := h.qL hj'
 unfold aG at e
 rw [Nat.add_assoc, Nat.add_assoc] at e
 obtain ⟨e1, e2⟩ := split_mul e oM oM
 obtain ⟨e3, e4⟩ := split_mul e2 hi Cu
 exact ⟨oM, e3, e4⟩
theorem bC.mO (h : bC f s) (hj : j < bm s f) (hi : i < s.k) : (B * f.pg ≤ aG s f b j + i ∧ aG s f b j + i < B * f.pg + f.pg) ↔ B = s.first + b := by
 have h1 := h.qL hj
 unfold aG
 constructor
 ·intro ⟨a1, a2⟩
  obtain ⟨r, hr⟩ : ∃ r, (s.first + b) * f.pg + j * s.k + i = B * f.pg + r := ⟨(s.first + b) * f.pg + j * s.k + i - B * f.pg, oM⟩
  rw [Nat.add_assoc] at hr
  have := split_mul hr oM oM
  exact this.1.symm
 rintro rfl
 omega
theorem bC.sJ (h : bC f s) (hb : b < s.aa) (hj : j < bm s f) (hi : i < s.k) : s.first * f.pg ≤ aG s f b j + i ∧ aG s f b j + i < (s.first + s.aa) * f.pg := by
 have h1 := h.qL hj
 have h2 : (s.first + b + 1) * f.pg ≤ (s.first + s.aa) * f.pg := Nat.mul_le_mul_right _ oM
 have h3 : s.first * f.pg ≤ (s.first + b) * f.pg := Nat.mul_le_mul_right _ oM
 rw [Nat.add_mul (s.first + b), Nat.one_mul] at h2
 unfold aG
 omega
def Lg (sp : List eB) (v : List Int) : Prop := ez sp v = v
theorem Ce {p : eB} (h : fy p = false) (x : Int) : ey p (ey p x) = ey p x := by
 unfold fy at h
 rw [decide_eq_false_iff_not] at h
 unfold ey
 by_cases hx : iz p x = true
 ·rw [iP hx, iP hx]
 rw [iN hx]
 have : iz p p.df = true := by unfold iz; rw [decide_eq_true_eq]; omega
 rw [iP this]
theorem Eo (h : sp.any fy = false) (v : List Int) : Lg sp (ez sp v) := by
 unfold Lg
 induction sp generalizing v with
 | nil => rfl
 | cons p sp ih =>
  cases v with
  | nil => rfl
  | cons x v =>
   rw [List.any_cons, Bool.or_eq_false_iff] at h
   show ey p (ey p x) :: ez sp (ez sp v) = _
   rw [Ce h.1, ih h.2]
   rfl
theorem Lg.set {v : List Int} (h : Lg sp v) {p : eB} (hp : sp[i]? = some p) (hx : iz p x = true) : Lg sp (v.set i x) := by
 unfold Lg ez at h ⊢
 apply List.ext_getElem?
 intro j
 rw [List.getElem?_zipWith, List.getElem?_set]
 by_cases e : i = j
 ·subst e
  rw [iP rfl, hp]
  by_cases aY : i < v.length
  ·rw [iP aY]
   simp [ey, hx]
  rw [iN aY]
 rw [iN e]
 have := congrArg (fun l : List Int => l[j]?) h
 simp only [List.getElem?_zipWith] at this
 exact this
def fW (s : St) : Option (Int × Nat × Nat × List Int) := if s.slot = -1 then none else some (s.seq, s.block, s.slot.toNat, s.saved)
structure Tgt (f : Fl) (s : St) : Prop where
 cN : s.cf = dV (s.seq + 1) s.values
 vl : s.values.length = s.aw.length
 lg : Lg s.aw s.values
 ne : s.bH = s.block → s.slot < s.bg
 nx : s.bH = s.block ∨ s.bH = (s.block + 1) % s.aa
 er : s.erase = true → s.bH ≠ s.block ∧ s.bg = 0 ∧ s.done = 0
 pre : s.erase = false → ∀ i, i < s.k → aB f (aG s f s.bH s.bg + i) = if i < s.done then eL (s.seq + 1) s.values i else cL
structure dW (f : Fl) (s : St) : Prop where
 wu : f.ok
 ok : bC f s
 up : f.aF = false
 br : s.af = false
 By : ∀ x, s.first * f.pg ≤ x → x < (s.first + s.aa) * f.pg → rH (aB f x)
 new : eZ f s (fW s)
 q0 : s.slot = -1 → s.seq = 0 ∧ s.block = 0 ∧ s.saved = s.aw.map eB.df
 xr : Lg s.aw s.saved
 uR : Lg s.aw s.aj
 Bz : s.bt = true → Tgt f s
structure xp (f : Fl) (s : St) : Prop where
 wu : f.ok
 ok : bC f s
 dn : f.aF = true
 br : s.af = true
 bu : s.bt = true
 By : ∀ x, s.first * f.pg ≤ x → x < (s.first + s.aa) * f.pg → rH (aB f x)
 new : eZ f s (fW s) ∨ (eZ f s (some (s.seq + 1, s.bH, s.bg, s.values)) ∧ 1 ≤ s.done)
 xr : Lg s.aw s.saved
 Z4 : Lg s.aw s.values
 q0 : s.slot = -1 → s.block = 0 ∧ s.saved = s.aw.map eB.df
theorem eZ.congr {c : Option (Int × Nat × Nat × List Int)} (h : eZ f s c) (hb : s'.aa = s.aa) (hs : s'.aw = s.aw) (hp : g.pg = f.pg) (hr : ∀ b j, b < s.aa → j < bm s f → eV g s' b j = eV f s b j) : eZ g s' c := by
 have ht : bm s' g = bm s f := by unfold bm St.k; rw [hs, hp]
 cases c with
 | none =>
  intro b j h1 h2
  rw [hb] at h1
  rw [ht] at h2
  rw [hr b j h1 h2]
  exact h b j h1 h2
 | some c =>
  obtain ⟨q, b, j, v⟩ := c
  obtain ⟨n1, n2, n3, n4⟩ := h
  refine ⟨by rw [hb]; exact n1, by rw [ht]; exact n2, by rw [hr b j n1 n2]; exact n3, fun b' j' q' v' h1 h2 h3 => ?_⟩
  rw [hb] at h1
  rw [ht] at h2
  rw [hr b' j' h1 h2] at h3
  exact n4 b' j' q' v' h1 h2 h3
theorem eZ.less {c : Option (Int × Nat × Nat × List Int)} (h : eZ f s c) (hb : s'.aa = s.aa) (hs : s'.aw = s.aw) (hp : g.pg = f.pg) 
 (hr : ∀ b j, b < s.aa → j < bm s f → eV g s' b j = eV f s b j ∨ (eV g s' b j = none ∧ ∀ q v, c ≠ some (q, b, j, v))) : eZ g s' c := by
 have ht : bm s' g = bm s f := by unfold bm St.k; rw [hs, hp]
 cases c with
 | none =>
  intro b j h1 h2
  rw [hb] at h1
  rw [ht] at h2
  rcases hr b j h1 h2 with e | ⟨e, _⟩
  ·rw [e]; exact h b j h1 h2
  exact e
 | some c =>
  obtain ⟨q, b, j, v⟩ := c
  obtain ⟨n1, n2, n3, n4⟩ := h
  refine ⟨by rw [hb]; exact n1, by rw [ht]; exact n2, ?_, fun b' j' q' v' h1 h2 h3 => ?_⟩
  ·rcases hr b j n1 n2 with e | ⟨_, e⟩
   ·rw [e]; exact n3
   exact absurd rfl (e q v)
  rw [hb] at h1
  rw [ht] at h2
  rcases hr b' j' h1 h2 with e | ⟨e, _⟩
  ·rw [e] at h3; exact n4 b' j' q' v' h1 h2 h3
  rw [e] at h3; cases h3
theorem dW.Qo (h : dW f s) {v : List Int} (hb : b < s.aa) (hj : j < bm s f) (hr : eV f s b j = some (q, v)) : q < s.seq + 1 := by
 have hn := h.new
 unfold fW at hn
 split at hn
 ·rw [hn b j hb hj] at hr; cases hr
 obtain ⟨n1, n2, n3, n4⟩ := hn
 rcases n4 b j q v hb hj hr with ⟨rfl, rfl⟩ | e
 ·rw [n3] at hr
  injection hr with hr
  simp only [Prod.mk.injEq] at hr
  omega
 omega
theorem dW.E7 (h : dW f s) (gB : s.block ≠ b ∨ s.slot < j) : ∀ q v, fW s ≠ some (q, b, j, v) := by
 intro q v e
 unfold fW at e
 split at e
 ·cases e
 injection e with e
 simp only [Prod.mk.injEq] at e
 obtain ⟨_, e2, e3, _⟩ := e
 have := h.ok.s1
 omega
end Go.Proofs.YtjdknddnanopaaaGreat
