/-
  Part 8 of the proof.
-/
import Derived.OrdersHeld
import Derived.Laws.ResultCell
import Derived.Deep.CutBlock
import Derived.Deep.RegionHeld
import Derived.Test.YtjdknddnanopaaaGreatQ6
namespace Go.Proofs.YtjdknddnanopaaaGreat
open Go.RowKit Tryz
set_option maxRecDepth 100000
set_option maxHeartbeats 16000000
set_option linter.all false
variable {f g : Fl} {W W' w w' : World} {s s' s0 : St} {B P T a b base c d e i j k m n size : Nat} {v v' : Value} {A : Option Addr} {vs : List Value} {X Y : Nat → Prop} {gh q x y : Int} {p bc : List Int} {o : Obj} {ps : List (List Int)} {sp : List eB}
theorem nm : (∀ (a : Go.Act) (d : Tmp) (v : Value), Act.put a (some d) v = { a with tmps := a.tmps.setIfInBounds d v }) ∧ (∀ (a : Go.Act) (v : Value), Act.put a none v = a) ∧
 (∀ (α : Type) (l : List α) (i : Nat) (x : α), l.toArray.setIfInBounds i x = (l.set i x).toArray) ∧ (∀ (α : Type) (l : List α) (y x : α), (y :: l).set 0 x = x :: l) ∧ (∀ (α : Type) (l : List α) (i : Nat) (y x : α), (y :: l).set (i + 1) x = y :: l.set i x) :=
 ⟨fun _ _ _ => rfl, fun _ _ => rfl, fun _ _ _ _ => List.setIfInBounds_toArray .., fun _ _ _ _ => rfl, fun _ _ _ _ _ => rfl⟩
section
variable {P : Program} {md : Region.Mode} {ops : Array Oper} {Q : Exit → Go.Act → World → Prop} {S : World → Prop} {fuel : Nat} {ay : Array Bool} {a a' : Go.Act} {w : World} {oi : Oper}
def Pn (P : Program) (md : Region.Mode) (ops : Array Oper) (Q : Exit → Go.Act → World → Prop) (ay : Array Bool) (a : Go.Act) (i d : Nat) (v : Value) (a' : Go.Act) : Prop :=
 ∃ oi, ops[i]? = some oi ∧ Region.noSelect ops = true ∧ Region.free md ops ay i = true ∧ (Region.ready md ops ay).contains i = true ∧ oi.dst = some d ∧ Region.wanted oi (yielded ops a.tmps) = true ∧ (∀ w, (execOp a.eval oi).run P w = .ok (.value v) w) ∧ a.put (some d) v = a' ∧ ∀ c a w, Q (.panic c) (a.put (some d) v) w → Q (.panic c) a w
theorem M9 (hi : ops[i]? = some oi := by exact rfl) (hs : Region.noSelect ops = true := by kernel_rfl) (hf : Region.free md ops ay i = true := by kernel_rfl) (hr : (Region.ready md ops ay).contains i = true := by kernel_rfl) (hd : oi.dst = some d := by exact rfl) (hw : Region.wanted oi (yielded ops a.tmps) = true := by exact rfl) (he : ∀ w, (execOp a.eval oi).run P w = .ok (.value (v)) w := by intro _; first | rfl | go_simp) (ha : a.put (some d) (v) = a' := by (simp only [nm]; rfl)) (hQ : ∀ c a w, Q (.panic c) (a.put (some d) (v)) w → Q (.panic c) a w := by exact fun _ _ _ h => h) : Pn P md ops Q ay a i d v a' := ⟨oi, hi, hs, hf, hr, hd, hw, he, ha, hQ⟩
theorem tV (i : Nat) (v : Value) (hS : S w) (h : wpAnyH P md ops Q S fuel (ay.setIfInBounds i true) a' w) (k : Pn P md ops Q ay a i d v a' := by exact M9) : wpAnyH P md ops Q S (fuel + 1) ay a w := by
 obtain ⟨oi, hi, hs, hf, hr, hd, hw, he, ha, hQ⟩ := k
 exact wpAnyH_take hi hs hf hr (by rw [hd]; exact hQ) (.inl ⟨hw, fun w _ => he w⟩) hS (by rw [hd, ha]; exact h)
theorem tL (i : Nat) (v : Value) (hi : ops[i]? = some oi) (hy : YieldsIf P ops S oi v a) (hS : S w) (h : wpAnyH P md ops Q S fuel (ay.setIfInBounds i true) a' w) (hs : Region.noSelect ops = true := by kernel_rfl) (hf : Region.free md ops ay i = true := by kernel_rfl) (hr : (Region.ready md ops ay).contains i = true := by kernel_rfl) (hd : oi.dst = some d := by exact rfl) (ha : a.put (some d) (v) = a' := by (simp only [nm]; rfl)) (hQ : ∀ c a w, Q (.panic c) (a.put (some d) (v)) w → Q (.panic c) a w := by exact fun _ _ _ h => h) : wpAnyH P md ops Q S (fuel + 1) ay a w :=
 wpAnyH_take hi hs hf hr (by rw [hd]; exact hQ) hy hS (by rw [hd, ha]; exact h)
theorem tG (i : Nat) (v : Value) (hS : S w) (h : wpAnyH P md ops Q S fuel (ay.setIfInBounds i true) a' w) (hi : ops[i]? = some oi := by exact rfl) (hs : Region.noSelect ops = true := by kernel_rfl) (hf : Region.free md ops ay i = true := by kernel_rfl) (hr : (Region.ready md ops ay).contains i = true := by kernel_rfl) (hd : oi.dst = some d := by exact rfl) (hw : Region.wanted oi (yielded ops a.tmps) = true := by exact rfl) (he : ∀ w, S w → (execOp a.eval oi).run P w = .ok (.value v) w := by (rintro w' ⟨h1, h2, h3⟩; go_simp)) (ha : a.put (some d) (v) = a' := by (simp only [nm]; rfl)) (hQ : ∀ c a w, Q (.panic c) (a.put (some d) (v)) w → Q (.panic c) a w := by exact fun _ _ _ h => h) : wpAnyH P md ops Q S (fuel + 1) ay a w :=
 wpAnyH_take hi hs hf hr (by rw [hd]; exact hQ) (.inl ⟨hw, he⟩) hS (by rw [hd, ha]; exact h)
theorem wD (h : Q .normal a w) (hr : Region.ready md ops ay = [] := by kernel_rfl) : wpAnyH P md ops Q S fuel ay a w := wpAnyH_done hr h _
theorem rW {d' : Option Tmp} {T : Prop} (hS : T) (h : wpAnyH P md ops Q S fuel ay a' w) (hd : d' = some d := by exact rfl) (ha : a.put (some d) (v) = a' := by (simp only [nm]; rfl)) : ∃ v', Ending.returned v = .returned v' ∧ T ∧ wpAnyH P md ops Q S fuel ay (a.put d' v') w := by
 subst hd ha
 exact ⟨v, rfl, hS, h⟩
end
abbrev Bh : Array Value := #[.slice none 0 0, .int .i64 0, .slice none 0 0, .bool false, .int .i64 0, .slice none 0 0]
abbrev qt : Array Value := #[.int .i64 0, .int .i64 0, .slice none 0 0, .slice none 0 0, .slice none 0 0, .int .i64 0, .int .i64 0, .int .i64 0, .slice none 0 0, .slice none 0 0, .int .i64 0, .int .i64 0, .int .i64 0, .int .i64 0, .bool false]
abbrev o0 (x : Rc) (g : Fl) (e : Bool) : Array Value := #[.slice x.A g.img.length x.c, .int .i64 g.pg, .slice x.B g.aq.length x.d, .bool e, .int .i64 g.be, .slice x.P g.az.length x.r]
abbrev aX (x : Rc) (g : Fl) : Array Value := #[.slice x.A g.img.length x.c, .int .i64 g.pg, .slice x.B g.aq.length x.d, .bool g.aF, .int .i64 g.be, .slice x.P g.az.length x.r]
def JE (x : Int) : Nat → Int
 | 0 => 0
 | j + 1 => JE x j + (if x / 2 ^ j % 2 = 0 then 1 else 0)
theorem NA : ∀ n : Fin 256, JE n.val 8 = uv n.val := by decide +kernel
theorem UZ (h : 0 ≤ x ∧ x < 256) : JE x 8 = uv x := by
 have := NA ⟨x.toNat, oM⟩
 rw [show ((⟨x.toNat, oM⟩ : Fin 256).val : Int) = x by simp; omega] at this
 exact this
theorem Mx : ∀ n : Fin 256, bits .and .u8 (n.val : Int) 1 = (n.val : Int) % 2 := by decide +kernel
theorem Pe (h : 0 ≤ x ∧ x < 256) : bits .and .u8 x 1 = x % 2 := by
 have := Mx ⟨x.toNat, oM⟩
 rw [show ((⟨x.toNat, oM⟩ : Fin 256).val : Int) = x by simp; omega] at this
 exact this
theorem G2 (x : Int) (j : Nat) : 0 ≤ JE x j ∧ JE x j ≤ j := by
 induction j with
 | zero => unfold JE; omega
 | succ j ih =>
  unfold JE
  split <;> omega
theorem FI (A : Option Addr) (n c : Nat) (b : List Int) (w : World) (hA : Rd w w.heap.size A (ag .u8 b)) (hn : b.length = n) (hb : Bytes b) (qS : n ≤ 1000000) :
 Calls prog 122 #[.slice A n c] w fun e w' => e = .returned (.int .i64 (cr b)) ∧ w = w' := by
 have HA := iD hA
 have HN := iD hn
 have HB := iD hb
 clear hA hn hb
 go_enter func122, ntmps122
 go_wp2
 go_loopw [3, 9] (fun z i wr => ∃ k : Nat, k ≤ n ∧ i = .int .i64 k ∧ z = .int .i64 (cr (b.take k)) ∧ w = wr) (fun _ i _ => n - (intOf i).toNat)
 case atStart => exact ⟨0, oM, rfl, by simp [cr], rfl⟩
 case round =>
  obtain ⟨k, hk, rfl, rfl, rfl⟩ := hrel
  by_cases aW : k < n
  ·obtain ⟨x, hx⟩ := getElem?_of_lt (l := b) (k := k) (by rw [HN]; exact aW)
   have qy := HB x (List.mem_of_getElem? hx)
   obtain ⟨ba, off, rfl, _, c0⟩ := HA.mo hx
   have HT : Hid (cr (b.take (k + 1)) = cr (b.take k) + JE x 8) := by rw [Hid, bA b k x hx, pI, UZ qy]
   have hz := gm (b.take k)
   rw [List.length_take, HN] at hz
   generalize cr (b.take k) = Z at *
   have HXB := iD qy
   clear hx qy
   go_wp2
   go_loopw [3, 13] (fun z i wr => ∃ j : Nat, j ≤ 8 ∧ i = .int .i64 j ∧ z = .int .i64 (Z + JE x j) ∧ w = wr) (fun _ i _ => 8 - (intOf i).toNat)
   case atStart => exact ⟨0, oM, rfl, by unfold JE; simp, rfl⟩
   case round =>
    obtain ⟨j, hj, rfl, rfl, rfl⟩ := hrel
    by_cases hltj : j < 8
    ·have hs : JE x (j + 1) = JE x j + (if x / 2 ^ j % 2 = 0 then 1 else 0) := rfl
     have hr := G2 x j
     obtain ⟨x0, x1⟩ := HXB
     have y0 : 0 ≤ x / 2 ^ j := Int.ediv_nonneg x0 (Int.pow_nonneg oM)
     have y1 : x / 2 ^ j < 256 := Int.lt_of_le_of_lt (Int.ediv_le_self _ x0) x1
     have ha := Pe ⟨y0, y1⟩
     by_cases hb : x / 2 ^ j % 2 = 0
     ·rw [iP hb] at hs
      rw [hb] at ha
      have HS := iD hs
      clear hs hb y0 y1
      go_wp2
      go_roundw
      case rel => exact ⟨j + 1, oM, by go_num, by rw [HS, Int.add_assoc], by first | rfl | trivial⟩
      case measure => simp [intOf]; omega
     have dB : x / 2 ^ j % 2 = 1 := oM
     rw [iN hb, Int.add_zero] at hs
     rw [dB] at ha
     have HS := iD hs
     clear hs hb dB y0 y1
     go_wp2
     go_roundw
     case rel => exact ⟨j + 1, oM, by go_num, by rw [HS], by first | rfl | trivial⟩
     case measure => simp [intOf]; omega
    obtain rfl : j = 8 := oM
    go_wp2
    go_roundw
    case rel => exact ⟨k + 1, oM, by go_num, by rw [HT], by first | rfl | trivial⟩
    case measure => simp [intOf]; omega
  have kg : k = n := oM
  subst kg
  have e : b.take k = b := by rw [← HN]; exact List.take_length
  rw [e]
  go_wp2
  go_ret
  exact ⟨rfl, rfl⟩
theorem oC (n : Nat) (hn : n < 1000000000000) (w : World) : Calls prog 80 #[.int .i64 (n : Int)] w fun e w' => e = .returned (.int .i64 (cO n : Nat)) ∧ w = w' := by
 have h1 : ((n : Int) + 5).tdiv 6 = ((cO n : Nat) : Int) := by
  rw [Int.tdiv_eq_ediv_of_nonneg oM]
  unfold cO
  omega
 have h2 : ((n : Int) + 5) / 6 = ((cO n : Nat) : Int) := by unfold cO; omega
 have h3 : cO n ≤ 1000000000000 := by unfold cO; omega
 generalize cO n = P at *
 go_enter func80, ntmps80
 go_wp2
 go_ret
 exact ⟨rfl, rfl⟩
theorem B4 (A : Option Addr) (n c : Nat) (b : List Int) (w : World) (hA : Rd w w.heap.size A (ag .u8 b)) (hn : b.length = n) (hb : Bytes b) (qS : n ≤ 1000000) :
 Calls prog 110 #[.slice A n c] w fun e w' => e = .returned (.int .i64 (zb (eN b))) ∧ w = w' := by
 have HA := iD hA
 have HN := iD hn
 have HB := iD hb
 clear hA hn hb
 go_enter func110, ntmps110
 go_wp2
 go_loopw [3, 8] (fun z i wr => ∃ k : Nat, k ≤ n ∧ i = .int .i64 k ∧ z = .int .u64 (eN (b.take k)) ∧ w = wr) (fun _ i _ => n - (intOf i).toNat)
 case atStart => exact ⟨0, oM, rfl, by simp [eN], rfl⟩
 case round =>
  obtain ⟨k, hk, rfl, rfl, rfl⟩ := hrel
  by_cases aW : k < n
  ·obtain ⟨x, hx⟩ := getElem?_of_lt (l := b) (k := k) (by rw [HN]; exact aW)
   have qy := HB x (List.mem_of_getElem? hx)
   obtain ⟨ba, off, rfl, _, c0⟩ := HA.mo hx
   have HT : Hid (eN (b.take (k + 1)) = (eN (b.take k) * 256 + x) % 18446744073709551616) := by rw [Hid, bA b k x hx, qL]
   have hz := yH (b.take k)
   generalize eN (b.take k) = Z at *
   have q1 := qy.1
   have q2 := qy.2
   clear hx qy
   go_wp2
   go_roundw
   case rel => exact ⟨k + 1, oM, by go_num, by rw [HT, IntKind.wrap_u64, IntKind.wrap_u64]; congr 1; omega, by first | rfl | trivial⟩
   case measure => simp [intOf]; omega
  have kg : k = n := oM
  subst kg
  have e : b.take k = b := by rw [← HN]; exact List.take_length
  rw [e]
  have E2 : Hid (zb (eN b) = wrap64 (eN b)) := by unfold zb; rw [Hid, IntKind.wrap_i64]; unfold wrap64; rfl
  go_wp2
  go_ret
  exact ⟨by rw [E2]; rfl, rfl⟩
theorem Hw {b : List Int} (hx : 0 ≤ x ∧ x < 256) (hy : 0 ≤ y ∧ y < 256) (h : b = [x, y]) : eN b = x * 256 + y := by
 subst h
 show ((0 * 256 + x) % 18446744073709551616 * 256 + y) % 18446744073709551616 = _
 omega
theorem SN (A : Option Addr) (n c : Nat) (b : List Int) (w : World) (hA : Rd w w.heap.size A (ag .u8 b)) (hn : b.length = n) (qa : n ≤ c) (fS : c ≤ maxLen) (hb : Bytes b) :
 Calls prog 109 #[.slice A n c] w fun e w' => e = .returned (.bool (du b)) ∧ ∃ q, w' = w.drewN q := by
 unfold maxLen at fS
 by_cases EF : n = 64
 ·subst EF
  have HG := iD (Cy hn)
  obtain ⟨x, hx⟩ := getElem?_of_lt (l := b) (k := 62) oM
  obtain ⟨y, hy⟩ := getElem?_of_lt (l := b) (k := 63) oM
  have qy := hb x (List.mem_of_getElem? hx)
  have Vq := hb y (List.mem_of_getElem? hy)
  have hd : b.drop 62 = [x, y] := by
   rw [gO b 62 x hx, gO b 63 y hy, List.drop_of_length_le oM]
  have HNU := iD (Hw qy Vq hd)
  obtain ⟨ba, off, rfl, _, e0⟩ := hA.mo hx
  obtain ⟨Ze, sI, e', _, e1⟩ := hA.mo hy
  injection e' with e'
  injection e' with e2 e3 _
  subst e2 e3
  have r2 : Rd w w.heap.size (some ⟨ba, off, none⟩) (ag .u8 (b.take 62)) := by
   have := hA.part 0 62
   rw [List.drop_zero] at this
   exact this
  have H86 : Hid (∀ q, Calls prog 122 #[.slice (some ⟨ba, off, none⟩) 62 c] (w.drewN q) fun e w' => e = .returned (.int .i64 (cr (b.take 62))) ∧ w' = w.drewN q) :=
   fun q => (FI _ 62 c _ _ (r2.drew cV q) (by rw [List.length_take, hn]; rfl) (fun x hx => hb x (List.mem_of_mem_take hx)) oM).mono fun _ _ h => ⟨h.1, h.2.symm⟩
  have hz := gm (b.take 62)
  rw [List.length_take, hn] at hz
  obtain ⟨z1, z2⟩ := hz
  generalize cr (b.take 62) = Z at *
  have z3 : Z < 1000 := oM
  have t1 : IntKind.i64.wrap (x * 256) = x * 256 := bf _ oM oM
  have t2 : IntKind.i64.wrap (x * 256 + y) = x * 256 + y := bf _ oM oM
  obtain ⟨x0, x1⟩ := qy
  obtain ⟨y0, y1⟩ := Vq
  have q9 : (62 : Int) ≤ (c : Int) := oM
  clear hA hn hb r2 z2 hx hy hd
  go_enter func109, ntmps109
  go_wp2
  go_quiet ((go_at_call 122; with_reducible exact Calls.quiet_of_same (H86.out _)))
  go_wp2
  go_ret
  exact ⟨by rw [HG, HNU]; rfl, _, rfl⟩
 have HG := iD (Cx (b := b) oM)
 have d : ((n : Int) == 64) = false := by simp; omega
 clear hA hn hb EF
 go_enter func109, ntmps109
 go_wp2
 go_quiet (fail)
 go_wp2
 go_ret
 exact ⟨by rw [HG]; rfl, _, rfl⟩
theorem KE (n : Int) (m : Nat) (w : World) (h1 : 1 ≤ m) (h8 : m ≤ 8) :
 Calls prog 127 #[.int .i64 n, .int .i64 (m : Int)] w fun e w' => ∃ v, e = .returned v ∧ w'.ownsRow w.heap.size 5 1 v m (ag .u8 (eM (l4 n) m)) ∧ bW w w' := by
 obtain ⟨i5, rR, jc, jb, ja⟩ := info_parts kD
 have hU := oR n
 have HU : Hid (l4 n = IntKind.u64.wrap n) := rfl
 go_enter func127, ntmps127
 go_wp2
 go_loopw [5, 6] (fun v i wr => ((∃ d : Nat, d < m ∧ i = .int .i64 (d : Int) ∧ wr.ownsRow w.heap.size 5 1 v (m - 1 - d) (ag .u8 ((eM (l4 n) m).take (m - 1 - d)))) ∨ (i = .int .i64 (-1) ∧ wr.ownsRow w.heap.size 5 1 v m (ag .u8 (eM (l4 n) m)))) ∧ bW w wr) (fun _ i _ => (intOf i + 1).toNat)
 case atStart => exact ⟨.inl ⟨m - 1, oM, by congr 1; omega, by rw [show m - 1 - (m - 1) = 0 by omega, List.take_zero]; exact World.ownsRow_nil _ _ _ _⟩, Below.refl _ _⟩
 case round =>
  obtain ⟨hc, hB⟩ := hrel
  have HB := iD hB
  clear hB
  rcases hc with ⟨d, hd, rfl, hO⟩ | ⟨rfl, hO⟩
  ·have HO := iD hO
   have HT : Hid ((eM (l4 n) m).take (m - 1 - d + 1) = (eM (l4 n) m).take (m - 1 - d) ++ [l4 n / 256 ^ d % 256]) := by
    have := bA (eM (l4 n) m) (m - 1 - d) _ (BK (l4 n) m (m - 1 - d) oM)
    rw [Hid, this, show m - 1 - (m - 1 - d) = d by omega]
   obtain ⟨y, hy⟩ := ex (l4 n / 256 ^ d % 256)
   rw [hy] at HT
   have HE : Hid (∀ k : Nat, k = 8 * d → l4 n / 2 ^ k % 256 = y) := by
    intro k hk
    subst hk
    rw [F3]
    exact hy
   have HY : Hid (IntKind.u64.wrap n / 2 ^ (8 * d) % 256 = y) := HE (8 * d) rfl
   clear hO hy
   go_wp2_with (at_builtin; refine wpList_append_own _ rfl _ _ 32 rfl w.heap.size 5 i5 (.int .u8 0) 1 1 underlying32 rR jc jb ja rfl oM _ _ _ rfl (aD HO (bV.alloc cV _)) ⟨wr.heap.size, 0, none⟩ 1 1 [.int .u8 (IntKind.u64.wrap n / 2 ^ (8 * d) % 256)] rfl rfl (cell_one_new _ _ _) (by simp [Value.oneCell']) (by unfold maxLen; omega) oM (by have := HB.size; simp; omega) ?_)
   intro v' w8 hown8 hgrow8 _
   have xY : Hid (w8.ownsRow w.heap.size 5 1 v' (m - 1 - d + 1) (ag .u8 ((eM (l4 n) m).take (m - 1 - d + 1)))) := by
    rw [Hid, HT, ← HY, dm]
    exact hown8
   have kt : Hid (bW w w8) := (HB.alloc HB.size _).grown hgrow8 (by have := HB.size; simp; omega) (fun k hk => (HO.lt k hk).1)
   clear hown8 hgrow8
   by_cases YV : d = 0
   ·subst YV
    go_wp2
    go_roundw
    case rel => exact ⟨.inr ⟨by go_num, by
     have := xY.out
     rw [show m - 1 - 0 + 1 = m by omega, List.take_of_length_le (by rw [cK]; exact Nat.le_refl _)] at this
     exact this⟩, kt⟩
    case measure => simp [intOf]
   obtain ⟨d', rfl⟩ : ∃ d', d = d' + 1 := ⟨d - 1, oM⟩
   go_wp2
   go_roundw
   case rel => exact ⟨.inl ⟨d', oM, by go_num, by
    have := xY.out
    rw [show m - 1 - (d' + 1) + 1 = m - 1 - d' by omega] at this
    exact this⟩, kt⟩
   case measure => simp [intOf]; omega
  have HO := iD hO
  clear hO
  go_wp2
  go_ret
  exact ⟨_, rfl, HO, HB⟩
def lH (seq : Int) (bc : List Int) (k i : Nat) : List Int := pC seq bc.length k ++ (List.range i).flatMap (la bc k)
theorem wo (seq : Int) (bc : List Int) (k i : Nat) : lH seq bc k (i + 1) = lH seq bc k i ++ la bc k i := by
 unfold lH
 rw [List.range_succ, List.flatMap_append, List.append_assoc]
 simp
theorem EG (seq : Int) (bc : List Int) (k : Nat) : lH seq bc k 6 ++ [0, 0, 0, 0, 0, 0] = fH seq bc k := by
 unfold lH fH fI
 simp
theorem mm {xs : List Value} (h : w.ownsRow base e size (.slice A n c) n xs) : Rd w w.heap.size A xs := by
 obtain ⟨A', c', e', _, _, hr⟩ := bL h
 injection e' with e1 _ _
 rw [e1]
 exact hr
theorem RN (seq : Int) (A : Option Addr) (n c : Nat) (bc : List Int) (k : Nat) (w : World) (hA : Rd w w.heap.size A (aw bc)) (hn : bc.length = n) (qS : n ≤ 48) (hk : k < 8) :
 Calls prog 123 #[.int .i64 seq, .slice A n c, .int .i64 (k : Int)] w fun e w' => ∃ g cc, e = .returned (.slice (some ⟨g, 0, none⟩) 64 cc) ∧ w'.ownsRow w.heap.size 5 1 (.slice (some ⟨g, 0, none⟩) 64 cc) 64 (ag .u8 (eL seq bc k)) ∧ bW w w' := by
 obtain ⟨i5, rR, jc, jb, ja⟩ := info_parts kD
 have HA := iD hA
 have HN := iD hn
 clear hA hn
 go_enter func123, ntmps123
 go_wp2_with (fail)
 have Q6 : Hid (∀ w, Calls prog 127 #[.int .i64 seq, .int .i64 6] w fun e w' => ∃ v, e = .returned v ∧ w'.ownsRow w.heap.size 5 1 v 6 (ag .u8 (eM (l4 seq) 6)) ∧ bW w w') := fun w => KE seq 6 w oM oM
 have HP8 : Hid (∀ x w, Calls prog 127 #[.int .i64 x, .int .i64 8] w fun e w' => ∃ v, e = .returned v ∧ w'.ownsRow w.heap.size 5 1 v 8 (ag .u8 (eM (l4 x) 8)) ∧ bW w w') := fun x w => KE x 8 w oM oM
 have Tr : Hid (∀ x w, Calls prog 127 #[.int .i64 x, .int .i64 2] w fun e w' => ∃ v, e = .returned v ∧ w'.ownsRow w.heap.size 5 1 v 2 (ag .u8 (eM (l4 x) 2)) ∧ bW w w') := fun x w => KE x 2 w oM oM
 obtain ⟨W, hW⟩ := ex (w.alloc (.cells #[.int .u8 (k : Int), .int .u8 (n : Int)] 5))
 have mA : Hid (W.ownsRow w.heap.size 5 1 (.slice (some ⟨w.heap.size, 0, none⟩) 2 2) 2 (ag .u8 [(k : Int), (n : Int)])) := by
  rw [← hW]
  exact fP rfl rfl cV (by unfold maxLen; omega)
 have gj : Hid (bW w W) := by rw [← hW]; exact bV.alloc cV _
 rw [hW]
 clear hW
 refine (Q6 W).mono ?_
 rintro e w1 ⟨v1, rfl, ng, dB⟩
 obtain ⟨A1, c1, rfl, h11, h12, _⟩ := a9 ng
 have HR1 := iD (mm ng)
 have iH := iD (aD mA dB)
 have zm : Hid (bW w w1) := gj.trans (dB.mono gj.size)
 have HL6 : Hid ((ag .u8 (eM (l4 seq) 6)).length = 6 * 1) := by rw [Hid, aE, cK]
 clear ng dB
 go_wp2_with (at_builtin; refine aM _ rfl _ _ 32 rfl w.heap.size 5 i5 (.int .u8 0) 1 1 underlying32 rR jc jb ja rfl oM _ 2 (ag .u8 [(k : Int), (n : Int)]) rfl iH w1.heap.size _ 6 c1 (ag .u8 (eM (l4 seq) 6)) rfl HR1 HL6 (cZ _ _) (by unfold maxLen; omega) oM zm.size ?_)
 intro v8 w8 hown8 hgrow8 _
 have xY : Hid (w8.ownsRow w.heap.size 5 1 v8 8 (ag .u8 (lH seq bc k 0))) := by
  have e : lH seq bc k 0 = [(k : Int), (n : Int)] ++ eM (l4 seq) 6 := by
   unfold lH pC
   rw [HN]
   simp
  rw [Hid, e, dm]
  exact hown8
 have kt : Hid (bW w w8) := zm.grown hgrow8 zm.size (fun k hk => (iH.lt k hk).1)
 clear hown8 hgrow8
 go_wp2
 go_loopw [7, 8] (fun v i wr => ∃ t q : Nat, t ≤ 6 ∧ q = 6 * k + t ∧ i = .int .i64 (q : Int) ∧ wr.ownsRow w.heap.size 5 1 v (8 + 8 * t) (ag .u8 (lH seq bc k t)) ∧ bW w wr) (fun _ i _ => 6 * k + 6 - (intOf i).toNat)
 case atStart => exact ⟨0, 6 * k, oM, oM, by go_num, xY, kt⟩
 case round =>
  obtain ⟨t, q, ht, hq, rfl, hO, hB⟩ := hrel
  have HO := iD hO
  have HB := iD hB
  have HQ := iD hq
  clear hO hB
  by_cases aW : t < 6
  ·have Dp : (q : Int) < 6 * (k : Int) + 6 := oM
   clear hq
   by_cases hqn : q < n
   ·obtain ⟨x, hx⟩ := getElem?_of_lt (l := bc) (k := q) (by rw [HN]; exact hqn)
    have HV : Hid (la bc k t = eM (l4 x) 8) := by
     unfold la
     rw [Hid, ← HQ, hx]
    obtain ⟨ba, off, rfl, _, c0⟩ := (HA.below HB cV).int hx
    clear hx
    go_wp2_with (fail)
    refine (HP8 x wr).mono ?_
    rintro e w3 ⟨v3, rfl, Nh, gL⟩
    obtain ⟨A3, c3, rfl, h31, h32, _⟩ := a9 Nh
    have PA := iD (mm Nh)
    have rZ := iD (aD HO gL)
    have jd : Hid (bW w w3) := HB.trans (gL.mono HB.size)
    have HL8 : Hid ((ag .u8 (eM (l4 x) 8)).length = 8 * 1) := by rw [Hid, aE, cK]
    clear Nh gL
    go_wp2_with (at_builtin; refine aM _ rfl _ _ 32 rfl w.heap.size 5 i5 (.int .u8 0) 1 1 underlying32 rR jc jb ja rfl oM _ (8 + 8 * t) (ag .u8 (lH seq bc k t)) rfl rZ w3.heap.size _ 8 c3 (ag .u8 (eM (l4 x) 8)) rfl PA HL8 (cZ _ _) (by unfold maxLen; omega) oM jd.size ?_)
    intro v9 w9 hown9 hgrow9 _
    have xc : Hid (w9.ownsRow w.heap.size 5 1 v9 (8 + 8 * (t + 1)) (ag .u8 (lH seq bc k (t + 1)))) := by
     rw [Hid, wo, HV, dm]
     exact hown9
    have jS : Hid (bW w w9) := jd.grown hgrow9 jd.size (fun k hk => (rZ.lt k hk).1)
    clear hown9 hgrow9
    go_wp2
    go_roundw
    case rel => exact ⟨t + 1, q + 1, oM, by have := HQ.out; omega, by go_num, xc.out, jS.out⟩
    case measure => simp [intOf]; omega
   have HV : Hid (la bc k t = eM (l4 0) 8) := by
    unfold la
    rw [Hid, ← HQ, List.getElem?_eq_none (by rw [HN]; omega)]
    decide
   go_wp2_with (fail)
   refine (HP8 0 wr).mono ?_
   rintro e w3 ⟨v3, rfl, Nh, gL⟩
   obtain ⟨A3, c3, rfl, h31, h32, _⟩ := a9 Nh
   have PA := iD (mm Nh)
   have rZ := iD (aD HO gL)
   have jd : Hid (bW w w3) := HB.trans (gL.mono HB.size)
   have HL8 : Hid ((ag .u8 (eM (l4 0) 8)).length = 8 * 1) := by rw [Hid, aE, cK]
   clear Nh gL
   go_wp2_with (at_builtin; refine aM _ rfl _ _ 32 rfl w.heap.size 5 i5 (.int .u8 0) 1 1 underlying32 rR jc jb ja rfl oM _ (8 + 8 * t) (ag .u8 (lH seq bc k t)) rfl rZ w3.heap.size _ 8 c3 (ag .u8 (eM (l4 0) 8)) rfl PA HL8 (cZ _ _) (by unfold maxLen; omega) oM jd.size ?_)
   intro v9 w9 hown9 hgrow9 _
   have xc : Hid (w9.ownsRow w.heap.size 5 1 v9 (8 + 8 * (t + 1)) (ag .u8 (lH seq bc k (t + 1)))) := by
    rw [Hid, wo, HV, dm]
    exact hown9
   have jS : Hid (bW w w9) := jd.grown hgrow9 jd.size (fun k hk => (rZ.lt k hk).1)
   clear hown9 hgrow9
   go_wp2
   go_roundw
   case rel => exact ⟨t + 1, q + 1, oM, by have := HQ.out; omega, by go_num, xc.out, jS.out⟩
   case measure => simp [intOf]; omega
  obtain rfl : t = 6 := oM
  have Dp : ¬ (q : Int) < 6 * (k : Int) + 6 := oM
  clear hq
  go_wp2_with (at_builtin; refine aM _ rfl _ _ 32 rfl w.heap.size 5 i5 (.int .u8 0) 1 1 underlying32 rR jc jb ja rfl oM _ 56 (ag .u8 (lH seq bc k 6)) rfl (aD HO (bV.alloc cV _)) (wr.heap.size + 1) _ 6 6 (ag .u8 [0, 0, 0, 0, 0, 0]) rfl (Rd.new wr _ _ _ rfl) rfl (cZ _ _) (by unfold maxLen; omega) oM (by have := HB.size; simp; omega) ?_)
  intro v9 w9 hown9 hgrow9 _
  have kd : w9.ownsRow w.heap.size 5 1 v9 62 (ag .u8 (fH seq bc k)) := by
   rw [← EG, dm]
   exact hown9
  have jS : Hid (bW w w9) := (HB.alloc HB.size _).grown hgrow9 (by have := HB.size; simp; omega) (fun k hk => (HO.lt k hk).1)
  obtain ⟨A9, c9, rfl, h91, h92, _⟩ := a9 kd
  have xc := iD kd
  have HZ := iD (FI A9 62 c9 (fH seq bc k) w9 (mm kd) (ep _ _ _) (oh seq bc k 6 oM (by rw [HN]; omega)) oM)
  obtain ⟨z, hz⟩ := ex (cr (fH seq bc k))
  have Z6 := gm (fH seq bc k)
  rw [ep, hz] at Z6
  have zw : l4 z = z := by rw [wX]; omega
  have HPZ : Hid (fH seq bc k ++ eM (l4 z) 2 = eL seq bc k) := by rw [Hid, zw, ← hz]; rfl
  rw [hz] at HZ
  clear hown9 hgrow9 kd hz zw
  go_wp2_with (fail)
  refine HZ.mono ?_
  rintro e TY ⟨rfl, rfl⟩
  go_wp2_with (fail)
  refine (Tr z _).mono ?_
  rintro e w11 ⟨v11, rfl, Iu, IA⟩
  obtain ⟨A11, rS, rfl, acr, acq, _⟩ := a9 Iu
  have abe := iD (mm Iu)
  have X8 := iD (aD xc IA)
  have TL : Hid (bW w w11) := jS.trans (IA.mono jS.size)
  have HL2 : Hid ((ag .u8 (eM (l4 z) 2)).length = 2 * 1) := by rw [Hid, aE, cK]
  clear Iu IA
  go_wp2_with (at_builtin; refine aM _ rfl _ _ 32 rfl w.heap.size 5 i5 (.int .u8 0) 1 1 underlying32 rR jc jb ja rfl oM _ 62 (ag .u8 (fH seq bc k)) rfl X8 w11.heap.size _ 2 rS (ag .u8 (eM (l4 z) 2)) rfl abe HL2 (cZ _ _) (by unfold maxLen; omega) oM TL.size ?_)
  intro tC w12 hown12 hgrow12 _
  have Sg : w12.ownsRow w.heap.size 5 1 tC 64 (ag .u8 (eL seq bc k)) := by
   rw [← HPZ, dm]
   exact hown12
  have aby : Hid (bW w w12) := TL.grown hgrow12 TL.size (fun k hk => (X8.lt k hk).1)
  obtain ⟨A12, Mk, rfl, _, _, aav⟩ := a9 Sg
  obtain ⟨g12, rfl, _, _⟩ := aav oM
  have abn := iD Sg
  clear hown12 hgrow12 Sg
  go_wp2
  go_ret
  exact ⟨g12, Mk, rfl, abn, aby⟩
structure AR (w wr : World) (v : Value) (vs : List Value) (seq : Int) (bc : List Int) (k : Nat) : Prop where
 own : wr.ownsRow w.heap.size 32 1 v k vs
 pg : ∀ i, i < k → ∃ g c, vs[i]? = some (.slice (some ⟨g, 0, none⟩) 64 c) ∧ wr.ownsRow w.heap.size 5 1 (.slice (some ⟨g, 0, none⟩) 64 c) 64 (ag .u8 (eL seq bc i))
 below : bW w wr
theorem AR.ab {wr : World} {seq : Int} (h : AR w wr v vs seq bc k) (hb : bW wr w') : AR w w' v vs seq bc k :=
 ⟨aD h.own hb, fun i hi => by
  obtain ⟨g, c, h1, h2⟩ := h.pg i hi
  exact ⟨g, c, h1, aD h2 hb⟩, h.below.trans (hb.mono h.below.size)⟩
theorem AR.push {seq : Int} {g : Nat} (h : AR w W v vs seq bc k) 
 (hp : W.ownsRow w.heap.size 5 1 (.slice (some ⟨g, 0, none⟩) 64 c) 64 (ag .u8 (eL seq bc k)))
 (ho : W'.ownsRow w.heap.size 32 1 v' (k + 1) (vs ++ [.slice (some ⟨g, 0, none⟩) 64 c])) (hg : (W.alloc o).grownBy W' v.ownBlock) : AR w W' v' (vs ++ [.slice (some ⟨g, 0, none⟩) 64 c]) seq bc (k + 1) := by
 have hb : bW W (W.alloc o) := bV.alloc cV o
 have h1 := h.ab hb
 have sO := aD hp hb
 have hl : vs.length = k := by have := h.own.1; simpa using this
 refine ⟨ho, fun i hi => ?_, h1.below.grown hg h1.below.size (fun k hk => (h1.own.lt k hk).1)⟩
 by_cases e : i = k
 ·subst e
  exact ⟨g, c, by rw [List.getElem?_append_right oM, hl]; simp, bN sO hg (fun g' dr e' => aL h1.own sO (by decide) g' e' dr)⟩
 obtain ⟨g', c', a1, a2⟩ := h1.pg i oM
 exact ⟨g', c', by rw [List.getElem?_append_left oM]; exact a1, bN a2 hg (fun g2 dr e' => aL h1.own a2 (by decide) g2 e' dr)⟩
theorem AR.rd {wr : World} {seq : Int} (h : AR w wr (.slice A n c) vs seq bc n) (hn : n = cO bc.length) (X : Nat → Prop) (hX : ∀ b, X b → b < w.heap.size) : lU X wr A (dS seq bc) := by
 have hl : vs.length = n := by have := h.own.1; simpa using this
 refine ⟨vs, lA hl h.own hX, by rw [fG, hl, hn], fun i p hp => ?_⟩
 have hi : i < cO bc.length := by rw [← fG seq bc]; exact (List.getElem?_eq_some_iff.1 hp).1
 rw [CJ seq bc i hi] at hp
 injection hp with hp
 subst hp
 obtain ⟨g, c, a1, a2⟩ := h.pg i oM
 obtain ⟨A', c', e, h1, h2, _⟩ := a9 a2
 injection e with _ _ e3
 subst e3
 exact ⟨_, 64, c, a1, dO _ _ _, h1, h2, lA (by rw [aE, dO]) a2 hX⟩
theorem O0 (seq : Int) (A : Option Addr) (n c : Nat) (w : World) (hn : n < 1000000000000) (h : fX seq n ≠ 0) :
 Calls prog 111 #[.int .i64 seq, .slice A n c] w fun e w' => e = .returned (.tuple #[.slice none 0 0, .int .i64 3]) ∧ w = w' := by
 have hc : seq < 1 ∨ (¬ seq < 1 ∧ 1099511627776 < seq) ∨ (¬ seq < 1 ∧ ¬ 1099511627776 < seq ∧ n < 1) ∨ (¬ seq < 1 ∧ ¬ 1099511627776 < seq ∧ ¬ n < 1 ∧ 48 < n) := by
  unfold fX at h
  split at h
  ·omega
  exact absurd rfl h
 clear h
 rcases hc with h1 | ⟨h1, h2⟩ | ⟨h1, h2, h3⟩ | ⟨h1, h2, h3, h4⟩
 all_goals
  go_enter func111, ntmps111
  go_wp2
  go_ret2
  exact ⟨rfl, rfl⟩
theorem CI (X : Nat → Prop) (seq : Int) (A : Option Addr) (n c : Nat) (bc : List Int) (w : World) (hX : ∀ b, X b → b < w.heap.size) (hA : Rd w w.heap.size A (aw bc)) (hn : bc.length = n) (h : fX seq n = 0) :
 Calls prog 111 #[.int .i64 seq, .slice A n c] w fun e w' => ∃ A' c', e = .returned (.tuple #[.slice A' (cO n) c', .int .i64 0]) ∧ cO n ≤ c' ∧ c' ≤ maxLen ∧ lU X w' A' (dS seq bc) ∧ bW w w' := by
 obtain ⟨s1, s2, n1, n2⟩ := ks h
 have HA := iD hA
 have HN := iD hn
 have HX := iD hX
 have jk := iD (fun w => oC n oM w)
 obtain ⟨P, hP⟩ := ex (cO n)
 have HP := iD hP
 have hP8 : P ≤ 8 := by rw [← hP]; exact jL n2
 rw [hP] at jk
 rw [hP]
 obtain ⟨i23, hi, uz, P7, Ce⟩ := info_parts zM
 have gC : ¬ seq < 1 := oM
 have je : ¬ 1099511627776 < seq := oM
 clear hA hn hX h hP
 go_enter func111, ntmps111
 go_wp2_with (fail)
 refine (jk w).mono ?_
 rintro e w1 ⟨rfl, rfl⟩
 go_wp2
 go_loopw [6, 27] (fun v i wr => ∃ (k : Nat) (vs : List Value), k ≤ P ∧ i = .int .i64 k ∧ AR w wr v vs seq bc k) (fun _ i _ => P - (intOf i).toNat)
 case atStart => exact ⟨0, [], Nat.zero_le _, rfl, World.ownsRow_nil _ _ _ _, fun i hi => oM, Below.refl _ _⟩
 case round =>
  obtain ⟨k, vs, hk, rfl, hI⟩ := hrel
  have HI := iD hI
  clear hI
  by_cases aW : k < P
  ·have mz := iD (RN seq A n c bc k wr ((HA.below HI.below cV).more HI.below.size) HN n2 oM)
   go_wp2_with (fail)
   refine mz.mono ?_
   rintro e w6 ⟨g, cc, rfl, oH, fx⟩
   have PI := iD (HI.ab fx)
   have AL : Hid (w6.ownsRow w.heap.size 5 1 (.slice (some ⟨g, 0, none⟩) 64 cc) 64 (ag .u8 (eL seq bc k))) := mR oH HI.below.size
   clear oH fx
   go_wp2_with (at_builtin; refine wpList_append_own _ rfl _ _ 41 rfl w.heap.size 32 i23 (.slice none 0 0) 1 24 underlying41 hi uz P7 Ce rfl oM _ _ _ rfl (aD PI.own (bV.alloc cV _)) ⟨w6.heap.size, 0, none⟩ 1 1 [.slice (some ⟨g, 0, none⟩) 64 cc] rfl rfl (cell_one_new _ _ _) (by simp [Value.oneCell']) (by unfold maxLen; omega) oM (by have := PI.below.size; simp; omega) ?_)
   intro v' w8 hown8 hgrow8 _
   have PH := iD (PI.push AL hown8 hgrow8)
   clear hown8 hgrow8
   go_wp2
   go_roundw
   case rel => exact ⟨k + 1, _, oM, by go_num, PH⟩
   case measure => simp [intOf]; omega
  have kg : k = P := oM
  subst kg
  obtain ⟨A', c', rfl, h1, h2, _⟩ := bL HI.own
  have HR := iD (HI.rd (by rw [HN, HP]) X HX)
  have HH := iD (And.intro h1 h2)
  clear h1 h2
  go_wp2
  go_ret2
  exact ⟨A', c', rfl, HH.1, HH.2, HR, HI.below⟩
def TS (w : World) (d : Int × List Int × Int) (e : Ending) (w' : World) : Prop :=
 ∃ A c, e = .returned (.tuple #[.int .i64 d.1, .slice A d.2.1.length c, .int .i64 d.2.2]) ∧ w'.ownsRow w.heap.size 3 1 (.slice A d.2.1.length c) d.2.1.length (aw d.2.1) ∧ bW w w'
theorem TS.none {k : Int} (hb : bW w w') : TS w (0, [], k) (.returned (.tuple #[.int .i64 0, .slice none 0 0, .int .i64 k])) w' :=
 ⟨Option.none, 0, rfl, World.ownsRow_nil .., hb⟩
theorem Mf (A : Option Addr) (n c : Nat) (ps : List (List Int)) (w : World) (hA : lU X w A ps) (hn : ps.length = n) (qa : n ≤ c) (fS : c ≤ maxLen) (hb : ∀ p ∈ ps, Bytes p) :
 Calls prog 82 #[.slice A n c] w (TS w (ff ps)) := by
 unfold maxLen at fS
 by_cases hl : ps.length < 1 ∨ 8 < ps.length
 ·have HD := iD (CN hl)
  rw [hn] at hl
  clear hA hn hb
  rcases hl with h | h
  all_goals
   go_enter func82, ntmps82
   go_wp2
   go_ret3
   rw [HD]
   exact .none bV
 have n1 : 1 ≤ n := oM
 have n8 : n ≤ 8 := oM
 have HL := iD hl
 have HA := iD hA
 have HN := iD hn
 have HB := iD hb
 clear hA hn hb hl
 go_enter func82, ntmps82
 go_wp2
 go_loopw [24] (fun i wr => ∃ k : Nat, k ≤ n ∧ i = .int .i64 k ∧ (ps.take k).all du = true ∧ ∃ q, wr = w.drewN q) (fun i _ => n - (intOf i).toNat)
 case atStart => exact ⟨0, Nat.zero_le _, rfl, rfl, 0, rfl⟩
 case round =>
  obtain ⟨k, hk, rfl, ht, q, rfl⟩ := hrel
  have HT := iD ht
  clear ht
  by_cases aW : k < n
  ·obtain ⟨p, hp⟩ := getElem?_of_lt (l := ps) (k := k) (by rw [HN]; exact aW)
   obtain ⟨ba, off, Q, cc, rfl, _, e1, p1, p2, r1⟩ := (HA.drew q).get hp
   have HG := iD (SN Q p.length cc p (w.drewN q) r1.rd rfl p1 p2 (HB p (List.mem_of_getElem? hp)))
   have HP := iD hp
   generalize p.length = lp at *
   clear hp r1 p1 p2
   by_cases hg : du p = true
   ·rw [hg] at HG
    have HS := iD (C4 HP HT hg)
    clear hg
    go_wp2_with (fail)
    refine HG.mono ?_
    rintro e w2 ⟨rfl, q2, rfl⟩
    go_wp2
    go_roundw
    case rel => exact ⟨k + 1, oM, by go_num, HS, _, rfl⟩
    case measure => simp [intOf]; omega
   have dr : du p = false := by simpa using hg
   rw [dr] at HG
   have HD := iD (CL HL (GK HP dr))
   clear hg dr
   go_wp2_with (fail)
   refine HG.mono ?_
   rintro e w2 ⟨rfl, q2, rfl⟩
   go_wp2
   go_ret3
   rw [HD]
   exact .none (Below.drewN bV _)
  have kg : k = n := oM
  subst kg
  have gG : ps.all du = true := by
   have := HT.out
   rwa [List.take_of_length_le (by rw [HN]; exact Nat.le_refl _)] at this
  obtain ⟨p0, AZ⟩ := getElem?_of_lt (l := ps) (k := 0) (by rw [HN]; omega)
  have Qo : p0.length = 64 := oI (List.all_eq_true.1 gG p0 (List.mem_of_getElem? AZ))
  obtain ⟨x1, Eo⟩ := getElem?_of_lt (l := p0) (k := 1) oM
  have qy := HB p0 (List.mem_of_getElem? AZ) x1 (List.mem_of_getElem? Eo)
  obtain ⟨n0, rfl⟩ := Int.eq_ofNat_of_zero_le qy.1
  obtain ⟨ba, off, Q0, c0, rfl, hbA, e0, p1, p2, r0⟩ := HA.get AZ
  rw [Qo] at e0 p1
  rw [Nat.add_zero] at e0
  obtain ⟨g, o, rfl, hgl, e1⟩ := r0.rd.mo Eo
  obtain ⟨s, hs⟩ := ex (zb (eN ((p0.drop 2).take 6)))
  have H91 : Hid (∀ q2, Calls prog 110 #[.slice (some ⟨g, o + 2, none⟩) 6 (c0 - 2)] (w.drewN q2) fun e w' => e = .returned (.int .i64 s) ∧ w' = w.drewN q2) := by
   intro q2
   rw [← hs]
   exact (B4 _ 6 _ _ _ ((r0.rd.part 2 6).drew cV q2) (by rw [List.length_take, List.length_drop, Qo]; rfl) (gA (eh (HB p0 (List.mem_of_getElem? AZ)) 2) 6) oM).mono fun _ _ h => ⟨h.1, h.2.symm⟩
  have xj := iD gG
  have GP := iD AZ
  have GN := iD Eo
  have Z2 : n0 < 256 := oM
  have ze := iD hs
  unfold maxLen at p2
  clear gG AZ Qo Eo qy r0 hs
  have k0 : 0 < k := oM
  go_wp2
  have q0 : (8 : Int) ≤ (c0 : Int) := oM
  have q9 : ¬ (c0 = 2) := oM
  go_quiet ((go_at_call 110; with_reducible exact vF (H91.out _)))
  clear q0 q9 e1
  have hc : n0 < 1 ∨ (¬ n0 < 1 ∧ 48 < n0) ∨ (¬ n0 < 1 ∧ ¬ 48 < n0) := oM
  rcases hc with f1 | ⟨f1, f2⟩ | ⟨f1, f2⟩
  ·have HD := iD (oO HL xj GP GN (by rw [HN]; exact .inl f1))
   go_wp2
   go_ret3
   rw [HD]
   exact .none (Below.drewN bV _)
  ·have HD := iD (oO HL xj GP GN (by rw [HN]; exact .inr (.inl f2)))
   go_wp2
   go_ret3
   rw [HD]
   exact .none (Below.drewN bV _)
  have jk := iD (fun w => oC n0 oM w)
  by_cases rO : cO n0 = k
  rotate_left
  ·have HD := iD (oO HL xj GP GN (by rw [HN]; exact .inr (.inr rO)))
   have fR : ((cO n0 : Nat) : Int) != (k : Int) := by simp; omega
   generalize cO n0 = P at *
   go_wp2_with (fail)
   refine (jk _).mono ?_
   rintro e w1 ⟨rfl, rfl⟩
   go_wp2
   go_ret3
   rw [HD]
   exact .none (Below.drewN bV _)
  have HD := iD (CO HL xj GP GN (by rw [HN]; omega))
  rw [ze] at HD
  rw [rO] at jk
  have uj := iD rO
  have fR : ((k : Int) != (k : Int)) = false := by simp
  obtain ⟨wq, RV⟩ := ex ((w.drewN q).drewN nq)
  have Bn : Hid (bW w wq) := by rw [← RV, World.drewN_drewN]; exact Below.drewN bV _
  rw [RV]
  clear rO RV
  go_wp2_with (fail)
  refine (jk _).mono ?_
  rintro e w1 ⟨rfl, rfl⟩
  obtain ⟨i3, vU, kE, jN, lh⟩ := info_parts mq
  go_wp2
  go_loopw [9, 57] (fun v i wr => ∃ j : Nat, j ≤ n0 ∧ i = .int .i64 j ∧ wr.ownsRow w.heap.size 3 1 v j (aw ((List.range j).map (lq ps))) ∧ bW w wr) (fun _ i _ => n0 - (intOf i).toNat)
  case atStart => exact ⟨0, Nat.zero_le _, rfl, World.ownsRow_nil _ _ _ _, Bn⟩
  case round =>
   obtain ⟨j, hj, rfl, hO, OG⟩ := hrel
   have HO := iD hO
   have Dl := iD OG
   clear hO OG
   by_cases hltj : j < n0
   ·have VQ : j / 6 < k := by have := uj.out; unfold cO at this; omega
    obtain ⟨p, hp⟩ := getElem?_of_lt (l := ps) (k := j / 6) (by rw [HN]; exact VQ)
    have Sl : p.length = 64 := oI (List.all_eq_true.1 xj p (List.mem_of_getElem? hp))
    obtain ⟨Ze, sI, Q, cc, eA, _, e2, p3, p4, r1⟩ := (HA.below Dl).get hp
    injection eA with eA
    injection eA with eA1 eA2
    subst eA1
    subst eA2
    rw [Sl] at e2 p3
    obtain ⟨g2, o2, rfl⟩ : ∃ g2 o2, Q = some ⟨g2, o2, none⟩ := by
     obtain ⟨x, hx⟩ := getElem?_of_lt (l := p) (k := 0) oM
     obtain ⟨b', o', e, _⟩ := r1.rd.mo hx
     exact ⟨b', o', e⟩
    obtain ⟨qq, kj⟩ := ex (8 + 8 * (j % 6))
    obtain ⟨et, het⟩ := ex (qq + 8)
    have aaK : et ≤ 64 := oM
    have t1 : (j : Int) % 6 = ((j % 6 : Nat) : Int) := oM
    have t1' : (j : Int).tmod 6 = ((j % 6 : Nat) : Int) := by rw [Int.tmod_eq_emod_of_nonneg oM]; exact t1
    have t2 : (8 : Int) + ((j % 6 : Nat) : Int) * 8 = (qq : Int) := oM
    have t2' : (16 : Int) + ((j % 6 : Nat) : Int) * 8 = (et : Int) := oM
    have t3 : (j : Int) / 6 = ((j / 6 : Nat) : Int) := oM
    have t3' : (j : Int).tdiv 6 = ((j / 6 : Nat) : Int) := by rw [Int.tdiv_eq_ediv_of_nonneg oM]; exact t3
    have t6 : et - qq = 8 := oM
    have HV : Hid (zb (eN ((p.drop qq).take 8)) = lq ps j) := by rw [Hid, CK hp, kj]
    have MS := iD (B4 (some ⟨g2, o2 + qq, none⟩) 8 (cc - qq) ((p.drop qq).take 8) wr (r1.rd.part qq 8) (by rw [List.length_take, List.length_drop, Sl]; omega) (gA (eh (HB p (List.mem_of_getElem? hp)) qq) 8) oM)
    rw [HV] at MS
    have t4 : ¬ (cc = qq) := oM
    have t7 : qq ≤ et := oM
    have t8 : et ≤ cc := oM
    unfold maxLen at p4
    generalize j / 6 = pi at *
    generalize j % 6 = pj at *
    clear hp Sl r1 kj het
    go_wp2_with (fail)
    refine MS.mono ?_
    rintro e w2 ⟨rfl, rfl⟩
    go_wp2_with (at_builtin; refine wpList_append_own _ rfl _ _ 33 rfl w.heap.size 3 i3 (.int .i64 0) 1 8 underlying33 vU kE jN lh rfl oM _ _ _ rfl (aD HO (bV.alloc cV _)) ⟨wr.heap.size, 0, none⟩ 1 1 [.int .i64 (lq ps j)] rfl rfl (cell_one_new _ _ _) (by simp [Value.oneCell']) (by unfold maxLen; omega) oM (by have := Dl.size; simp; omega) ?_)
    intro v' w8 hown8 hgrow8 _
    have xY : Hid (w8.ownsRow w.heap.size 3 1 v' (j + 1) (aw ((List.range (j + 1)).map (lq ps)))) := by
     rw [Hid, nG, aw, List.map_append]
     exact hown8
    have kt : Hid (bW w w8) := (Dl.alloc Dl.size _).grown hgrow8 (by have := Dl.size; simp; omega) (fun k hk => (HO.lt k hk).1)
    clear hown8 hgrow8
    go_wp2
    go_roundw
    case rel => exact ⟨j + 1, oM, by go_num, xY, kt⟩
    case measure => simp [intOf]; omega
   have Ba : j = n0 := oM
   subst Ba
   obtain ⟨A', c', rfl, h1, h2, hr⟩ := bL HO
   have HR := iD hr
   have HC := iD (And.intro h1 h2)
   have hF : ∀ b, (fun _ : Nat => False) b → b < wr.heap.size := fun b h => h.elim
   obtain ⟨bc, qO⟩ := ex ((List.range j).map (lq ps))
   have Ik : bc.length = j := by rw [← qO]; simp
   have Oe : ∀ x ∈ bc, dH x := by rw [← qO]; exact pz
   rw [qO] at HD HR HO
   have Pr := iD Ik
   clear h1 h2 hr qO
   by_cases he : fX s j = 0
   ·have HE := iD (CI (fun _ => False) s A' j c' bc wr hF HR Ik he)
    rw [uj] at HE
    have ZA : Hid ((dS s bc).length = k) := by rw [Hid, fG, Pr]; exact uj
    have HEB : Hid (∀ p ∈ dS s bc, Bytes p) := fun p hp => (Ai (by rw [Pr]; omega) p hp).2
    have UU := iD he
    clear hF Ik Oe he
    go_wp2_with (fail)
    refine HE.mono ?_
    rintro e w3 ⟨A3, c3, rfl, h1, h2, Eu, gL⟩
    have PA := iD Eu
    have jd : Hid (bW w w3) := Dl.trans (gL.mono Dl.size)
    have rZ := iD (aD HO gL)
    clear h1 h2 Eu gL
    go_wp2
    go_loopw [89] (fun i wr => ∃ t : Nat, t ≤ k ∧ i = .int .i64 t ∧ (dS s bc).take t = ps.take t ∧ ∃ q, wr = w3.drewN q) (fun i _ => k - (intOf i).toNat)
    case atStart => exact ⟨0, Nat.zero_le _, rfl, rfl, 0, rfl⟩
    case round =>
     obtain ⟨t, ht, rfl, Gk, q3, P8⟩ := hrel
     have xz := iD Gk
     have HAr : Hid (lU X wr (some ⟨ba, off, none⟩) ps) := by rw [P8]; exact (HA.below jd).drew q3
     have HRr : Hid (lU (fun _ => False) wr A3 (dS s bc)) := by rw [P8]; exact PA.drew q3
     have HBr : Hid (bW w3 wr) := by rw [P8]; exact Below.drewN bV _
     have HWR := iD P8
     clear Gk P8
     by_cases hltt : t < k
     ·obtain ⟨p, hp⟩ := getElem?_of_lt (l := ps) (k := t) (by rw [HN]; exact hltt)
      obtain ⟨r, hr⟩ := getElem?_of_lt (l := dS s bc) (k := t) (by rw [ZA]; exact hltt)
      obtain ⟨Ze, sI, Q, cc, eA, _, e2, p3, p4, r1⟩ := HAr.get hp
      injection eA with eA
      injection eA with eA1 eA2
      subst eA1
      subst eA2
      obtain ⟨ba3, abK, Q3, cc3, rfl, _, e3, p5, p6, r3⟩ := HRr.get hr
      have s1 : ∀ q, (convert 32 9 (.slice Q p.length cc)).run prog (wr.drewN q) = .ok (.string (strOfNums p)) (wr.drewN q) := fun q => lN (r1.rd.drew cV q) rfl
      have s2 : ∀ q, (convert 32 9 (.slice Q3 r.length cc3)).run prog (wr.drewN q) = .ok (.string (strOfNums r)) (wr.drewN q) := fun q => lN (r3.rd.drew cV q) rfl
      have hs := FP (HB p (List.mem_of_getElem? hp)) (HEB r (List.mem_of_getElem? hr))
      have HP := iD hp
      have HRR := iD hr
      clear hp hr r1 r3 p3 p4 p5 p6
      generalize p.length = lp at *
      generalize r.length = lr at *
      by_cases Ew : p = r
      ·rw [decide_eq_true Ew] at hs
       have eW := iD (vg HRR HP xz Ew.symm)
       clear Ew
       go_wp2
       go_quiet (fail)
       go_wp2
       go_roundw
       case rel => exact ⟨t + 1, oM, by go_num, eW, _, by rw [HWR, World.drewN_drewN]⟩
       case measure => simp [intOf]; omega
      rw [decide_eq_false Ew] at hs
      have HF : Hid (ff ps = (0, [], 2)) := by
       rw [Hid, HD, iP]
       right
       intro e
       rw [e, HP] at HRR
       injection HRR with h
       exact Ew h
      clear Ew
      go_wp2
      go_quiet (fail)
      go_wp2
      go_ret3
      rw [HF]
      exact .none (jd.trans ((Below.drewN HBr _).mono jd.size))
     obtain rfl : t = k := oM
     have HQ : Hid (dS s bc = ps) := by
      have := xz.out
      rwa [List.take_of_length_le (by rw [ZA]; exact Nat.le_refl _), List.take_of_length_le (by rw [HN]; exact Nat.le_refl _)] at this
     have HF : Hid (ff ps = (s, bc, 0)) := by
      rw [Hid, HD, iN]
      rintro (h | h)
      ·exact h UU
      exact h HQ
     go_wp2
     go_ret3
     rw [HF]
     refine ⟨A', c', ?_, ?_, jd.trans (HBr.mono jd.size)⟩
     ·simp only [Pr.out]; rfl
     simp only [Pr.out]; exact aD rZ HBr
   have HE := iD (O0 s A' j c' wr oM he)
   have HF : Hid (ff ps = (0, [], 2)) := by
    rw [Hid, HD, iP (.inl he)]
   clear hF Ik Oe he
   go_wp2_with (fail)
   refine HE.mono ?_
   rintro e w3 ⟨rfl, rfl⟩
   go_wp2
   go_ret3
   rw [HF]
   exact .none Dl
theorem jm {fn : Func} {p : Tmp} {ty : TypeId} (h : fn.results = #[.cell p ty]) (tmps : Array Value) (P : Program) (w : World) :
 (results fn tmps).run P w = ((asAddr (tmps.getD p undef)).run P w).andThen fun a w₁ => (loadVar ty a).run P w₁ := by
 simp only [results, h]
 simp [Sem.run_bind, Result.andThen]
theorem yy {x : Rc} (h : cf X w x g) (i : Nat) (hi : i < 100000) :
 Calls prog 78 #[x.v g, .int .i64 i] w fun e w' => e = .returned (.int .u8 (dj g.az i)) ∧ bW w w' := by
 obtain ⟨NP, Uq⟩ := ex g.az.length
 have Dq : NP ≤ maxLen := by rw [← Uq]; exact Nat.le_trans h.p1 h.p2
 have H := iD h
 have HN := iD Uq
 obtain ⟨A, c, B, d, P, r⟩ := x
 show Calls prog 78 #[.agg #[.slice A g.img.length c, .int .i64 g.pg, .slice B g.aq.length d, .bool g.aF, .int .i64 g.be, .slice P g.az.length r], _] w _
 rw [Uq]
 have HB : Hid (bW w (w.alloc (.cells #[.slice A g.img.length c, .int .i64 g.pg, .slice B g.aq.length d, .bool g.aF, .int .i64 g.be, .slice P NP r] 35))) := bV.alloc cV _
 unfold maxLen at Dq
 by_cases aW : i < NP
 ·obtain ⟨y, hy⟩ := getElem?_of_lt (l := g.az) (k := i) (by rw [Uq]; exact aW)
  have Lf : dj g.az i = y := by unfold dj; rw [hy]; rfl
  rw [Lf]
  obtain ⟨bb, off, hP, cB, c0⟩ := (h.p.rd.below (HB) cV).mo hy
  simp only at hP
  subst hP
  clear hy Lf h Uq
  go_enter func78, ntmps78
  go_wp2
  go_ret
  exact ⟨rfl, HB⟩
 have Lf : dj g.az i = 0 := by unfold dj; rw [List.getElem?_eq_none oM]; rfl
 rw [Lf]
 clear Lf h Uq
 go_enter func78, ntmps78
 go_wp2
 go_ret
 exact ⟨rfl, HB⟩
theorem bI (w : World) (o : Obj) : bW w (w.alloc o) := bV.alloc cV o
theorem ck (w : World) (o p : Obj) : bW w ((w.alloc o).alloc p) := (bI w o).alloc (by rw [show (w.alloc o).heap.size = w.heap.size + 1 from Array.size_push _]; omega) p
theorem CU {x : Rc} (h : cf X w x g) :
 Calls prog 77 #[x.v g] w fun e w' => e = .returned (.tuple #[x.v (dx g).1, .bool (dx g).2]) ∧ bW w w' := by
 have hf := h.ok.LK
 have Nm := h.ok.LJ
 obtain ⟨A, c, B, d, P, r⟩ := x
 show Calls prog 77 #[.agg #[.slice A g.img.length c, .int .i64 g.pg, .slice B g.aq.length d, .bool g.aF, .int .i64 g.be, .slice P g.az.length r]] w _
 unfold dx
 clear h
 by_cases h0 : g.be = 0
 ·rw [iP h0]
  show Calls _ _ _ _ fun e w' => e = .returned (.tuple #[.agg #[.slice A g.img.length c, .int .i64 g.pg, .slice B g.aq.length d, .bool true, .int .i64 g.be, .slice P g.az.length r], .bool true]) ∧ _
  have h1 : (g.be == 0) = true := by simpa using h0
  clear h0
  go_enter func77, ntmps77
  go_wp2
  (try simp only [Exit.inBlock, Exit.then])
  refine bodyPost_ret (v := .tuple #[.agg #[.slice A g.img.length c, .int .i64 g.pg, .slice B g.aq.length d, .bool true, .int .i64 g.be, .slice P g.az.length r], .bool true]) ?_ rfl ⟨rfl, ck _ _ _⟩
  rw [results_cell_tmp rfl]
  go_simp
 rw [iN h0]
 have h1 : (g.be == 0) = false := by simpa using h0
 by_cases h2 : 0 < g.be
 ·rw [iP h2]
  show Calls _ _ _ _ fun e w' => e = .returned (.tuple #[.agg #[.slice A g.img.length c, .int .i64 g.pg, .slice B g.aq.length d, .bool g.aF, .int .i64 (g.be - 1), .slice P g.az.length r], .bool false]) ∧ _
  clear h0
  go_enter func77, ntmps77
  go_wp2
  (try simp only [Exit.inBlock, Exit.then])
  refine bodyPost_ret (v := .tuple #[.agg #[.slice A g.img.length c, .int .i64 g.pg, .slice B g.aq.length d, .bool g.aF, .int .i64 (g.be - 1), .slice P g.az.length r], .bool false]) ?_ rfl ⟨rfl, ck _ _ _⟩
  rw [results_cell_tmp rfl]
  go_simp
 rw [iN h2]
 have h3 : decide (0 < g.be) = false := by simpa using h2
 show Calls _ _ _ _ fun e w' => e = .returned (.tuple #[.agg #[.slice A g.img.length c, .int .i64 g.pg, .slice B g.aq.length d, .bool g.aF, .int .i64 g.be, .slice P g.az.length r], .bool false]) ∧ _
 clear h0 h2
 go_enter func77, ntmps77
 go_wp2
 (try simp only [Exit.inBlock, Exit.then])
 refine bodyPost_ret (v := .tuple #[.agg #[.slice A g.img.length c, .int .i64 g.pg, .slice B g.aq.length d, .bool g.aF, .int .i64 g.be, .slice P g.az.length r], .bool false]) ?_ rfl ⟨rfl, ck _ _ _⟩
 rw [results_cell_tmp rfl]
 go_simp
theorem cn.setCell {xs : List Value} (h : cn X w A xs) (p : Addr) (u : Value) (hp : X p.block) : cn X (w.setCell p u) A xs := fun hx => by
 obtain ⟨b, off, e, aW, hn, hc⟩ := h hx
 exact ⟨b, off, e, by simpa [World.setCell] using aW, hn, fun j v hv => (cell_of_block (Below.heap_setCell _ _ _ _ (by intro e2; exact hn (e2 ▸ hp)))).trans (hc j v hv)⟩
theorem cn.cX {xs : List Value} (h : cn X w A xs) (hX : ∀ b, Y b → X b) : cn Y w A xs := fun hx => by
 obtain ⟨b, off, e, aW, hn, hc⟩ := h hx
 exact ⟨b, off, e, aW, fun hy => hn (hX b hy), hc⟩
theorem yt {x : Rc} (h : cf X w x g) (hX : ∀ b, X b → b < w.heap.size) (page : Int) :
 Calls prog 79 #[x.v g, .int .i64 page] w fun e w' => ∃ A' n' c', e = .returned (.tuple #[.slice A' n' c', .int .i64 (ft g page).2]) ∧ (ft g page).1.length = n' ∧ n' ≤ c' ∧ c' ≤ maxLen ∧ cn X w' A' (ag .u8 (ft g page).1) ∧ bW w w' := by
 have ua := h.lE
 have hlen := h.ok.len
 have mB := h.a1
 have sT := h.a2
 have H := iD h
 have HX := iD hX
 obtain ⟨NI, Ab⟩ := ex g.img.length
 have po := iD Ab
 obtain ⟨T, hT⟩ := ex (g.aq.length * g.pg)
 have HT := iD hT
 rw [hT] at hlen
 rw [Ab] at hlen ua mB
 obtain ⟨A, c, B, d, P, r⟩ := x
 simp only at mB sT
 unfold maxLen at sT
 have Dp : (NI : Int) / 64 = (T : Int) := oM
 have AY : (NI : Int).tdiv 64 = (T : Int) := by rw [Int.tdiv_eq_ediv_of_nonneg oM]; exact Dp
 have hTb : T ≤ 1024 := oM
 show Calls prog 79 #[.agg #[.slice A g.img.length c, .int .i64 g.pg, .slice B g.aq.length d, .bool g.aF, .int .i64 g.be, .slice P g.az.length r], _] w _
 rw [Ab]
 have yb := iD hlen
 clear h hX Ab hT hlen
 by_cases hd : g.aF = true
 ·have hr : ft g page = ([], 20) := by unfold ft lZ; rw [iP hd]; rfl
  rw [hr, hd]
  clear hr hd
  go_enter func79, ntmps79
  go_wp2
  go_ret2
  exact ⟨none, 0, 0, rfl, rfl, Nat.le_refl _, Nat.zero_le _, cn.nil, bI _ _⟩
 have kX : g.aF = false := by simpa using hd
 rw [kX]
 by_cases hp : page < 0 ∨ (T : Int) ≤ page
 ·have hr : ft g page = ([], 10) := by unfold ft lZ; rw [iN hd, HT, iP hp]; rfl
  rw [hr]
  clear hr hd kX
  by_cases h0 : page < 0
  ·clear hp
   go_enter func79, ntmps79
   go_wp2
   go_ret2
   exact ⟨none, 0, 0, rfl, rfl, Nat.le_refl _, Nat.zero_le _, cn.nil, bI _ _⟩
  have Dq : (T : Int) ≤ page := oM
  have h0' : decide (page < 0) = false := by simpa using h0
  clear hp h0
  go_enter func79, ntmps79
  go_wp2
  go_ret2
  exact ⟨none, 0, 0, rfl, rfl, Nat.le_refl _, Nat.zero_le _, cn.nil, bI _ _⟩
 obtain ⟨p, rfl⟩ : ∃ p : Nat, page = (p : Int) := ⟨page.toNat, oM⟩
 have hpT : p < T := oM
 have hr : ft g (p : Int) = (aB g p, 0) := by unfold ft lZ; rw [iN hd, HT, iN hp]; simp only [Int.toNat_natCast]; rfl
 rw [hr]
 have fQ : (aB g p).length = 64 := by unfold aB; rw [List.length_take, List.length_drop, po.out]; have := yb.out; omega
 have nj := iD fQ
 obtain ⟨V, hV⟩ := ex (w.alloc (.cells #[.slice A NI c, .int .i64 g.pg, .slice B g.aq.length d, .bool false, .int .i64 g.be, .slice P g.az.length r] 35))
 have pG : Hid (bW w V) := by rw [← hV]; exact bI _ _
 have v0 : V.cell? ⟨w.heap.size, 0, none⟩ = some (.slice A NI c) := by rw [← hV]; exact cm _ _ _ _ _ _ rfl rfl
 have v3 : V.cell? ⟨w.heap.size, 3, none⟩ = some (.bool false) := by rw [← hV]; exact cm _ _ _ _ _ _ rfl rfl
 have v0b : (V.alloc (.cells #[] 5)).cell? ⟨w.heap.size, 0, none⟩ = some (.slice A NI c) := (((Below.refl V.heap.size V).alloc cV _).cell (p := ⟨w.heap.size, 0, none⟩) (World.block_lt_of_cell? V _ v0)).trans v0
 have SH : Rd w w.heap.size A (ag .u8 g.img) := H.a.rd
 have hA : ∃ bb off, A = some ⟨bb, off, none⟩ := by
  obtain ⟨b, off, e, _⟩ := SH (by
   intro e
   have := congrArg List.length e
   rw [aE, po] at this
   simp at this
   have := yb.out
   omega)
  exact ⟨b, off, e⟩
 obtain ⟨bb, off, rfl⟩ := hA
 have J3 : Hid (Rd w w.heap.size (some ⟨bb, off + 64 * p, none⟩) (ag .u8 (aB g p))) := SH.part (64 * p) 64
 have zj : Hid ((ag .u8 (aB g p)).length = 64 * 1) := by rw [Hid, aE, fQ]
 obtain ⟨i5, rR, jc, jb, ja⟩ := info_parts kD
 have nQ : 0 ≤ maxLen := Nat.zero_le _
 have AZ : decide ((p : Int) < 0) = false := by simp
 have sO : decide (T ≤ p) = false := by simp; omega
 have hhi : 64 * p + 64 ≤ NI := by have := yb.out; omega
 have k1 : 64 * (p : Int) ≤ 64 * (p : Int) + 64 := oM
 have k2 : 64 * (p : Int) + 64 ≤ (c : Int) := oM
 have k3 : (0 : Int) ≤ 64 * (p : Int) := oM
 have k4 : (64 * (p : Int)).toNat = 64 * p := oM
 have k5 : (64 * (p : Int) + 64).toNat = 64 * p + 64 := oM
 have k6 : ¬ (c = 64 * p) := oM
 clear hr hd kX hp fQ SH
 go_enter func79, ntmps79
 go_wp2_with (first | (at_builtin; refine aM _ rfl _ _ 32 rfl V.heap.size 5 i5 (.int .u8 0) 1 1 underlying32 rR jc jb ja rfl oM _ 0 [] rfl (World.ownsRow_lit V #[] 0 cV nQ rfl) w.heap.size _ 64 _ (ag .u8 (aB g p)) rfl (J3.below (pG.alloc pG.size _) cV) zj (cZ _ _) (by unfold maxLen; omega) oM (by simp) ?_))
 intro v' w2 bX hgrow kj
 have fK : Hid (bW V w2) := ((Below.refl V.heap.size V).alloc cV _).grown hgrow (by simp) (fun k hk => by have hk' : some V.heap.size = some k := hk; injection hk'; omega)
 try simp only [Nat.zero_add, List.nil_append] at bX
 obtain ⟨A2, c2, rfl, uE, nR, oF⟩ := bL bX
 have HO := iD bX
 clear bX hgrow kj oF
 go_wp2
 go_ret2
 exact ⟨A2, 64, c2, rfl, nj, uE, nR, cn.new HX pG.size (by rw [aE]; exact nj) HO, pG.trans (fK.mono pG.size)⟩
theorem mQ {p : Nat} {b : List Int} (hi : g.img = lay f.img (64 * p) b) (hb : b.length = 64 * m) (hl : 64 * p + 64 * m ≤ f.img.length) (x : Nat) :
 aB g x = if p ≤ x ∧ x < p + m then (b.drop (64 * (x - p))).take 64 else aB f x := by
 apply List.ext_getElem?
 intro i
 have key : (aB g x)[i]? = if i < 64 then (if 64 * p ≤ 64 * x + i ∧ 64 * x + i < 64 * p + b.length then b[64 * x + i - 64 * p]? else f.img[64 * x + i]?) else none := by
  unfold aB
  rw [List.getElem?_take, List.getElem?_drop, hi, mV _ _ _ oM]
 rw [key]
 by_cases EF : i < 64
 ·rw [iP EF]
  by_cases hx : p ≤ x ∧ x < p + m
  ·rw [iP oM, iP hx, List.getElem?_take, iP EF, List.getElem?_drop]
   congr 1
   omega
  rw [iN oM, iN hx]
  unfold aB
  rw [List.getElem?_take, iP EF, List.getElem?_drop]
 rw [iN EF]
 split
 ·rw [List.getElem?_take, iN EF]
 unfold aB
 rw [List.getElem?_take, iN EF]
theorem Hu {a c : Int} (hx : 0 ≤ x ∧ x < 256) (ha : 0 ≤ a ∧ a < 256) (hc : 0 ≤ c ∧ c < 256) : nv (nv x a) c = nv x (nv a c) := by
 obtain ⟨X, rfl⟩ := Int.eq_ofNat_of_zero_le hx.1
 obtain ⟨A, rfl⟩ := Int.eq_ofNat_of_zero_le ha.1
 obtain ⟨C, rfl⟩ := Int.eq_ofNat_of_zero_le hc.1
 have h1 : nv (X : Int) (A : Int) = ((X ||| A : Nat) : Int) := u8_or_nat X A oM oM
 have h2 : nv (A : Int) (C : Int) = ((A ||| C : Nat) : Int) := u8_or_nat A C oM oM
 have l1 : X ||| A < 2 ^ 8 := Nat.or_lt_two_pow oM oM
 have l2 : A ||| C < 2 ^ 8 := Nat.or_lt_two_pow oM oM
 rw [h1, h2]
 unfold nv
 rw [u8_or_nat (X ||| A) C oM oM, u8_or_nat X (A ||| C) oM oM, Nat.or_assoc]
def rC (p : List Int) : Prop := ∃ b m, du b = true ∧ b.length = 64 ∧ Bytes b ∧ Bytes m ∧ p = eK b m
def T6 (m n : List Int) : List Int := (List.range 64).map fun i => nv (dj m i) (dj n i)
theorem yD {m n : List Int} (hm : Bytes m) (hn : Bytes n) : Bytes (T6 m n) := by
 intro x hx
 unfold T6 at hx
 rw [List.mem_map] at hx
 obtain ⟨i, _, rfl⟩ := hx
 exact nL (ef hm i) (ef hn i)
theorem sf {b m n : List Int} (hl : b.length = 64) (hb : Bytes b) (hm : Bytes m) (hn : Bytes n) : eK (eK b m) n = eK b (T6 m n) := by
 apply List.ext_getElem?
 intro i
 rw [eJ, eJ, eJ]
 cases e : b[i]? with
 | none => rfl
 | some x =>
  have hi : i < 64 := by rw [← hl]; exact (List.getElem?_eq_some_iff.1 e).1
  simp only [Option.map_some]
  congr 1
  have : dj (T6 m n) i = nv (dj m i) (dj n i) := by
   unfold T6
   conv => lhs; unfold dj
   rw [List.getElem?_map, List.getElem?_range hi]
   rfl
  rw [this, Hu (hb x (List.mem_of_getElem? e)) (ef hm i) (ef hn i)]
theorem Km {b : List Int} (hb : Bytes b) : eK b [] = b := by
 apply List.ext_getElem?
 intro i
 rw [eJ]
 cases e : b[i]? with
 | none => rfl
 | some x =>
  simp only [Option.map_some]
  congr 1
  exact KO (hb x (List.mem_of_getElem? e))
theorem Bytes.nil : Bytes [] := fun x hx => by simp at hx
theorem rC.SO {b : List Int} (hg : du b = true) (hl : b.length = 64) (hb : Bytes b) : rC b := ⟨b, [], hg, hl, hb, Bytes.nil, (Km hb).symm⟩
theorem rC.len (h : rC p) : p.length = 64 := by
 obtain ⟨b, m, _, hl, _, _, rfl⟩ := h
 rw [db, hl]
theorem rC.wQ (h : rC p) : Bytes p := by
 obtain ⟨b, m, _, hl, hb, hm, rfl⟩ := h
 exact ku hb hm
theorem rC.eK {n : List Int} (h : rC p) (hn : Bytes n) : rC (eK p n) := by
 obtain ⟨b, m, hg, hl, hb, hm, rfl⟩ := h
 exact ⟨b, T6 m n, hg, hl, hb, yD hm hn, sf hl hb hm hn⟩
theorem rC.fix {n : List Int} (h : rC p) (hn : Bytes n) (hg : du (YtjdknddnanopaaaGreat.eK p n) = true) : YtjdknddnanopaaaGreat.eK p n = p := by
 obtain ⟨b, m, hgb, hl, hb, hm, rfl⟩ := h
 rw [sf hl hb hm hn] at hg ⊢
 rw [yk hb (yD hm hn) hl hgb, decide_eq_true_eq] at hg
 rw [hg]
 apply List.ext_getElem?
 intro i
 rw [eJ]
 cases e : b[i]? with
 | none => rfl
 | some x =>
  simp only [Option.map_some]
  congr 1
  have hx := hb x (List.mem_of_getElem? e)
  have h1 := (Br hx (ef hm i)).2.2
  have h2 := (Br (nL hx (ef hm i)) (ef hn i)).2.2
  have h3 : nv (nv x (dj m i)) (dj n i) = x := by
   have h4 := congrArg (fun l : List Int => l[i]?) hg
   rw [← sf hl hb hm hn] at h4
   simp only [eJ, e, Option.map_some] at h4
   exact Option.some.inj h4
  omega
def cM : List Int := List.replicate 64 255
theorem qn : cM.length = 64 := by simp [cM]
theorem Ar : Bytes cM := I5 64 255 oM
theorem KP (hx : 0 ≤ x ∧ x < 256) : nv x 255 = 255 := by
 have h : ∀ n : Fin 256, nv (n.val : Int) 255 = 255 := by decide +kernel
 have := h ⟨x.toNat, oM⟩
 simp only [Int.toNat_of_nonneg hx.1] at this
 exact this
theorem rC.blank : rC cM := by
 refine ⟨eL 1 [0] 0, cM, sV _ _ _, dO _ _ _, lC _ _ _ oM (by simp), Ar, ?_⟩
 apply List.ext_getElem?
 intro i
 rw [eJ]
 by_cases hi : i < 64
 ·obtain ⟨x, hx⟩ := getElem?_of_lt (l := eL 1 [0] 0) (k := i) (by rw [dO]; exact hi)
  have hb : cM[i]? = some 255 := by unfold cM; rw [List.getElem?_replicate, iP hi]
  have hp : dj cM i = 255 := by unfold dj; rw [hb]; rfl
  rw [hx, hb, Option.map_some, hp, KP (lC _ _ _ oM (by simp) x (List.mem_of_getElem? hx))]
 rw [List.getElem?_eq_none (by rw [qn]; omega), List.getElem?_eq_none (by rw [dO]; omega)]
 rfl
theorem kV : du cM = false := I9
theorem iX (h : p.length = 64) : ch p = true ↔ p = cM := by
 unfold ch cM
 constructor
 ·intro hb
  rw [List.all_eq_true] at hb
  rw [← h]
  exact List.eq_replicate_iff.2 ⟨rfl, fun x hx => by simpa using hb x hx⟩
 rintro rfl
 rw [List.all_eq_true]
 intro x hx
 rw [List.mem_replicate] at hx
 simp [hx.2]
def eU (f : Fl) (s : St) (b j : Nat) : Option (Int × List Int) :=
 let d := ff (bT f (aG s f b j) s.k)
 if d.2.2 = 0 ∧ d.2.1.length = s.ax.length then some (d.1, d.2.1) else none
theorem yr {v : List Int} (h : eU f s b j = some (q, v)) :
 bT f (aG s f b j) s.k = dS q v ∧ fX q v.length = 0 ∧ v.length = s.ax.length ∧ (∀ x ∈ v, dH x) ∧ ∀ p ∈ bT f (aG s f b j) s.k, du p = true := by
 unfold eU at h
 simp only at h
 have hv := td (bT f (aG s f b j) s.k)
 have dc := GF (ps := bT f (aG s f b j) s.k)
 generalize ff (bT f (aG s f b j) s.k) = d at *
 split at h
 ·rename_i hc
  injection h with h
  obtain ⟨dq, dv, de⟩ := d
  simp only [Prod.mk.injEq] at h
  obtain ⟨rfl, rfl⟩ := h
  obtain ⟨a, b', c, _⟩ := dc hc.1
  exact ⟨a, b', hc.2, hv, List.all_eq_true.1 c⟩
 cases h
theorem BI {v : List Int} (hp : bT f (aG s f b j) s.k = dS q v) (he : fX q v.length = 0) (hl : v.length = s.ax.length) (hv : ∀ x ∈ v, dH x) : eU f s b j = some (q, v) := by
 unfold eU
 rw [hp, O4 he hv]
 simp [hl]
theorem kv (hi : i < s.k) (hb : du (aB f (aG s f b j + i)) = false) : eU f s b j = none := by
 cases h : eU f s b j with
 | none => rfl
 | some r =>
  obtain ⟨q, v⟩ := r
  have := (yr h).2.2.2.2 (aB f (aG s f b j + i)) (by
   unfold bT
   rw [List.mem_map]
   exact ⟨i, List.mem_range.2 hi, rfl⟩)
  rw [hb] at this
  cases this
theorem zD (h : ∀ i, i < n → aB g (a + i) = aB f (a + i)) : bT g a n = bT f a n := by
 unfold bT
 apply List.map_congr_left
 intro i hi
 exact h i (List.mem_range.1 hi)
theorem dD (hf : s'.first = s.first) (hs : s'.ax = s.ax) (hp : g.pg = f.pg) (h : ∀ i, i < s.k → aB g (aG s f b j + i) = aB f (aG s f b j + i)) : eU g s' b j = eU f s b j := by
 have hk : s'.k = s.k := by unfold St.k; rw [hs]
 have ha : aG s' g b j = aG s f b j := by unfold aG; rw [hk, hf, hp]
 unfold eU
 rw [ha, hk, zD h, hs]
def eY (f : Fl) (s : St) : Option (Int × Nat × Nat × List Int) → Prop
 | none => ∀ b j, b < s.aa → j < bm s f → eU f s b j = none
 | some (q, b, j, v) => b < s.aa ∧ j < bm s f ∧ eU f s b j = some (q, v) ∧ ∀ b' j' q' v', b' < s.aa → j' < bm s f → eU f s b' j' = some (q', v') → (b' = b ∧ j' = j) ∨ q' < q
theorem zH (f : Fl) (s : St) (b j : Nat) : cT f s b j = match eU f s b j with
 | some (q, v) => if q ≤ s.seq then s else { s with seq := q, block := b, av := j, an := ez s.ax v }
 | none => s := by
 obtain ⟨d, hd⟩ := ex (ff (bT f (aG s f b j) s.k))
 by_cases h : d.2.2 = 0 ∧ d.2.1.length = s.ax.length
 ·have hr : eU f s b j = some (d.1, d.2.1) := by unfold eU; rw [hd]; exact iP h
  rw [hr]
  simp only
  by_cases hq : d.1 ≤ s.seq
  ·rw [iP hq, iu hd (.inr (.inr hq))]
  rw [iN hq, j7 hd oM]
 have hr : eU f s b j = none := by unfold eU; rw [hd]; exact iN h
 rw [hr]
 refine iu hd ?_
 by_cases h0 : d.2.2 = 0
 ·exact .inr (.inl (fun e => h ⟨h0, e⟩))
 exact .inl h0
def Az (f : Fl) (s0 : St) (P : Nat → Nat → Prop) (a : St) : Prop :=
 (a = s0 ∧ ∀ b j, P b j → eU f s0 b j = none) ∨
 ∃ q b j v, P b j ∧ eU f s0 b j = some (q, v) ∧ a = { s0 with seq := q, block := b, av := (j : Int), an := ez s0.ax v } ∧ ∀ b' j' q' v', P b' j' → eU f s0 b' j' = some (q', v') → q' ≤ q
theorem Az.step {a : St} {P : Nat → Nat → Prop} (h0 : s0.seq = 0) (h : Az f s0 P a) (b j : Nat) : Az f s0 (fun b' j' => P b' j' ∨ (b' = b ∧ j' = j)) (cT f a b j) := by
 have lj : eU f a b j = eU f s0 b j := by
  rcases h with ⟨rfl, _⟩ | ⟨q, b1, j1, v, _, _, rfl, _⟩
  ·rfl
  exact dD rfl rfl rfl (fun _ _ => rfl)
 rw [zH, lj]
 cases hr : eU f s0 b j with
 | none =>
  rcases h with ⟨rfl, hn⟩ | ⟨q, b1, j1, v, hp, hq, rfl, hm⟩
  ·refine .inl ⟨rfl, fun b' j' h' => ?_⟩
   rcases h' with h' | ⟨rfl, rfl⟩
   ·exact hn b' j' h'
   exact hr
  refine .inr ⟨q, b1, j1, v, .inl hp, hq, rfl, fun b' j' q' v' h' hq' => ?_⟩
  rcases h' with h' | ⟨rfl, rfl⟩
  ·exact hm b' j' q' v' h' hq'
  rw [hr] at hq'; cases hq'
 | some r =>
  obtain ⟨qr, vr⟩ := r
  simp only
  have Ck := (ks (yr hr).2.1).1
  rcases h with ⟨rfl, hn⟩ | ⟨q, b1, j1, v, hp, hq, rfl, hm⟩
  ·rw [iN oM]
   refine .inr ⟨qr, b, j, vr, .inr ⟨rfl, rfl⟩, hr, rfl, fun b' j' q' v' h' hq' => ?_⟩
   rcases h' with h' | ⟨rfl, rfl⟩
   ·rw [hn b' j' h'] at hq'; cases hq'
   rw [hr] at hq'
   injection hq' with hq'
   simp only [Prod.mk.injEq] at hq'
   omega
  simp only
  by_cases hle : qr ≤ q
  ·rw [iP hle]
   refine .inr ⟨q, b1, j1, v, .inl hp, hq, rfl, fun b' j' q' v' h' hq' => ?_⟩
   rcases h' with h' | ⟨rfl, rfl⟩
   ·exact hm b' j' q' v' h' hq'
   rw [hr] at hq'
   injection hq' with hq'
   simp only [Prod.mk.injEq] at hq'
   omega
  rw [iN hle]
  refine .inr ⟨qr, b, j, vr, .inr ⟨rfl, rfl⟩, hr, rfl, fun b' j' q' v' h' hq' => ?_⟩
  rcases h' with h' | ⟨rfl, rfl⟩
  ·have := hm b' j' q' v' h' hq'
   omega
  rw [hr] at hq'
  injection hq' with hq'
  simp only [Prod.mk.injEq] at hq'
  omega
theorem Az.cX {a : St} {P Q : Nat → Nat → Prop} (h : Az f s0 P a) (hPQ : ∀ b j, P b j ↔ Q b j) : Az f s0 Q a := by
 have : P = Q := funext fun b => funext fun j => propext (hPQ b j)
 rw [← this]
 exact h
theorem Kv {a : St} (h0 : s0.seq = 0) (h : Az f s0 (fun b' j' => b' < b ∧ j' < T) a) (hn : n ≤ T) :
 Az f s0 (fun b' j' => (b' < b ∧ j' < T) ∨ (b' = b ∧ j' < n)) (ea f b a n) := by
 induction n with
 | zero => exact h.cX (fun b' j' => oM)
 | succ n ih =>
  rw [dP]
  exact ((ih oM).step h0 b n).cX (fun b' j' => oM)
theorem Kw (h0 : s0.seq = 0) (m : Nat) : Az f s0 (fun b' j' => b' < m ∧ j' < T) (cS f T s0 m) := by
 induction m with
 | zero => exact .inl ⟨rfl, fun b j h => oM⟩
 | succ m ih =>
  rw [eZ]
  exact (Kv h0 ih (Nat.le_refl T)).cX (fun b' j' => oM)
theorem kB (h0 : s0.seq = 0) {cur : Option (Int × Nat × Nat × List Int)} (hn : eY f s0 cur) :
 cS f (bm s0 f) s0 s0.aa = match cur with
  | none => s0
  | some (q, b, j, v) => { s0 with seq := q, block := b, av := (j : Int), an := ez s0.ax v } := by
 have h := Kw (f := f) (T := bm s0 f) h0 s0.aa
 cases cur with
 | none =>
  rcases h with ⟨e, _⟩ | ⟨q, b, j, v, hp, hq, _, _⟩
  ·exact e
  rw [hn b j hp.1 hp.2] at hq; cases hq
 | some c =>
  obtain ⟨q, b, j, v⟩ := c
  obtain ⟨n1, n2, n3, n4⟩ := hn
  rcases h with ⟨_, hx⟩ | ⟨q', b', j', v', hp, hq, e, hm⟩
  ·rw [hx b j ⟨n1, n2⟩] at n3; cases n3
  have h1 := hm b j q v ⟨n1, n2⟩ n3
  rcases n4 b' j' q' v' hp.1 hp.2 hq with ⟨rfl, rfl⟩ | aW
  ·rw [n3] at hq
   injection hq with hq
   simp only [Prod.mk.injEq] at hq
   obtain ⟨rfl, rfl⟩ := hq
   exact e
  omega
def Ka : Value := .agg #[.int .i64 0, .int .i64 0, .slice none 0 0, .slice none 0 0, .slice none 0 0, .int .i64 0, .int .i64 0, .int .i64 0, .slice none 0 0, .slice none 0 0, .int .i64 0, .int .i64 0, .int .i64 0, .int .i64 0, .bool false]
def rL (fi bl : Int) (Q : Option Addr) (n cq : Nat) (Qs : Option Addr) (N cs : Nat) (seq gh av : Int) : List Value :=
 [.int .i64 fi, .int .i64 bl, .slice Q n cq, .slice none 0 0, .slice Qs N cs, .int .i64 seq, .int .i64 gh, .int .i64 av, .slice none 0 0, .slice none 0 0, .int .i64 0, .int .i64 (-1), .int .i64 0, .int .i64 0, .bool false]
def zL : List Value := [.int .i64 0, .int .i64 0, .slice none 0 0, .slice none 0 0, .slice none 0 0, .int .i64 0, .int .i64 0, .int .i64 0, .slice none 0 0, .slice none 0 0, .int .i64 0, .int .i64 0, .int .i64 0, .int .i64 0, .bool false]
structure qu (w wr : World) (D4 D8 D : Nat) (x : Rc) (g : Fl) (fi bl : Int) (Q : Option Addr) (n cq : Nat) (sp : List eB) (Qs : Option Addr) (cs : Nat) (raw : List Int) (seq gh av : Int) : Prop where
 below : bW w wr
 o4 : wr.ownsRow w.heap.size 35 6 (.slice (some ⟨D4, 0, none⟩) 1 1) 1 (x.l g)
 o8 : wr.ownsRow w.heap.size 43 15 (.slice (some ⟨D8, 0, none⟩) 1 1) 1 zL
 o : wr.ownsRow w.heap.size 43 15 (.slice (some ⟨D, 0, none⟩) 1 1) 1 (rL fi bl Q n cq Qs raw.length cs seq gh av)
 sp : wr.ownsRow w.heap.size 132 3 (.slice Q n cq) n (bK sp)
 sv : wr.ownsRow w.heap.size 3 1 (.slice Qs raw.length cs) raw.length (aw raw)
 ne : D8 ≠ D
section
variable {w wr : World} {D4 D8 D n cq cs : Nat} {x : Rc} {g : Fl} {fi bl seq gh av : Int} {Q Qs : Option Addr} {sp : List eB} {raw : List Int}
theorem qu.ab (h : qu w wr D4 D8 D x g fi bl Q n cq sp Qs cs raw seq gh av) (hb : bW wr w') : qu w w' D4 D8 D x g fi bl Q n cq sp Qs cs raw seq gh av :=
 ⟨h.below.trans (hb.mono h.below.size), aD h.o4 hb, aD h.o8 hb, aD h.o hb, aD h.sp hb, aD h.sv hb, h.ne⟩
theorem qu.row (h : qu w wr D4 D8 D x g fi bl Q n cq sp Qs cs raw seq gh av) (j : Nat) (u : Value) (hj : (rL fi bl Q n cq Qs raw.length cs seq gh av)[j]? = some u) : wr.cell? ⟨D, j, none⟩ = some u := by
 have aW : j < 15 := by
  have := (List.getElem?_eq_some_iff.1 hj).1
  simpa [rL] using this
 rw [h.o.cellAt j oM]
 exact hj
theorem qu.fz (h : qu w wr D4 D8 D x g fi bl Q n cq sp Qs cs raw seq gh av) (j : Nat) : wr.frozen? ⟨D, j, none⟩ = false := h.o.frozenAt _
theorem qu.ll (h : qu w wr D4 D8 D x g fi bl Q n cq sp Qs cs raw seq gh av) (j : Nat) (u : Value) (hj : (x.l g)[j]? = some u) : wr.cell? ⟨D4, j, none⟩ = some u := by
 have aW : j < 6 := by
  have := (List.getElem?_eq_some_iff.1 hj).1
  simpa [Rc.l] using this
 rw [h.o4.cellAt j oM]
 exact hj
theorem qu.pH (h : qu w wr D4 D8 D x g fi bl Q n cq sp Qs cs raw seq gh av) (j : Nat) (u : Value) (hj : zL[j]? = some u) : wr.cell? ⟨D8, j, none⟩ = some u := by
 have aW : j < 15 := by
  have := (List.getElem?_eq_some_iff.1 hj).1
  simpa [zL] using this
 rw [h.o8.cellAt j oM]
 exact hj
theorem qu.cell (h : qu w wr D4 D8 D x g fi bl Q n cq sp Qs cs raw seq gh av) (j : Nat) (u : Value) {Qs' : Option Addr} {cs' : Nat} {raw' : List Int} {seq' blk' slot' : Int} 
 (hc : (rL fi bl Q n cq Qs raw.length cs seq gh av).set j u = rL fi bl Q n cq Qs' raw'.length cs' seq' blk' slot')
 (fB : wr.ownsRow w.heap.size 3 1 (.slice Qs' raw'.length cs') raw'.length (aw raw')) : qu w (wr.setCell ⟨D, j, none⟩ u) D4 D8 D x g fi bl Q n cq sp Qs' cs' raw' seq' blk' slot' := by
 have h1 := h.o.stored j u
 have hD := (h.o.lt _ rfl).1
 refine ⟨h.below.setCell (p := ⟨D, j, none⟩) hD _, bN h.o4 h1.2 (fun g hg e => aL h.o h.o4 (by decide) g e hg), ?_, by rw [← hc]; exact h1.1, bN h.sp h1.2 (fun g hg e => aL h.o h.sp (by decide) g e hg), bN fB h1.2 (fun g hg e => aL h.o fB (by decide) g e hg), h.ne⟩
 refine bN h.o8 h1.2 (fun g' hg e => ?_)
 have e1 : D8 = g' := by simpa [Value.ownBlock] using hg
 have e2 : D = g' := by simpa using e
 exact h.ne (e1.trans e2.symm)
end
theorem vI {cs : Array Value} {xs : List Value} (hc : cs.toList = xs) (hl : xs.length = size) (hb : base ≤ w.heap.size) :
 (w.alloc (.cells cs e)).ownsRow base e size (.slice (some ⟨w.heap.size, 0, none⟩) 1 1) 1 xs := Gc hc hl hb
theorem Rd.F7 {l : List eB} (h : Rd w B A (bK l)) {p : eB} (hp : l[k]? = some p) :
 ∃ b off, A = some ⟨b, off, none⟩ ∧ w.cell? ⟨b, off + k * 3, none⟩ = some (.int .i64 p.lo) ∧ w.cell? ⟨b, off + k * 3 + 1, none⟩ = some (.int .i64 p.hi) ∧ w.cell? ⟨b, off + k * 3 + 2, none⟩ = some (.int .i64 p.df) := by
 have key : ∀ j u, p.cells[j]? = some u → (bK l)[k * 3 + j]? = some u := fun j u hu => flat_get eB.cells 3 (fun _ => rfl) l k j p u hp hu
 obtain ⟨b, off, e, aW, hc⟩ := h (by
  intro e
  have := key 0 _ rfl
  rw [e] at this
  simp at this)
 exact ⟨b, off, e, hc _ _ (key 0 _ rfl), hc _ _ (key 1 _ rfl), hc _ _ (key 2 _ rfl)⟩
section
variable {w wr : World} {D4 D8 D n cq cs : Nat} {x : Rc} {g : Fl} {fi bl seq gh av : Int} {Q Qs : Option Addr} {sp : List eB} {raw : List Int}
theorem qu.push (h : qu w wr D4 D8 D x g fi bl Q n cq sp Qs cs raw seq gh av) 
 (ho : W'.ownsRow w.heap.size 3 1 v' (raw.length + 1) (aw (raw ++ [y]))) (hg : (wr.alloc o).grownBy W' (Value.slice Qs raw.length cs).ownBlock) :
 ∃ Qs' cs', v' = .slice Qs' (raw.length + 1) cs' ∧ (∀ j u, j ≠ 4 → wr.cell? ⟨D, j, none⟩ = some u → W'.cell? ⟨D, j, none⟩ = some u) ∧ W'.frozen? ⟨D, 4, none⟩ = false ∧ W'.cell? ⟨D, 4, none⟩ = some (.slice Qs raw.length cs) ∧ qu w (W'.setCell ⟨D, 4, none⟩ (.slice Qs' (raw.length + 1) cs')) D4 D8 D x g fi bl Q n cq sp Qs' cs' (raw ++ [y]) seq gh av := by
 have hb : bW wr (wr.alloc o) := bV.alloc cV o
 have h1 := h.ab hb
 obtain ⟨Qs', cs', rfl, _, _, _⟩ := a9 ho
 have VS := bN h1.o4 hg (fun g' dr e' => aL h1.sv h1.o4 (by decide) g' e' dr)
 have iF := bN h1.o8 hg (fun g' dr e' => aL h1.sv h1.o8 (by decide) g' e' dr)
 have Qj := bN h1.o hg (fun g' dr e' => aL h1.sv h1.o (by decide) g' e' dr)
 have gT := bN h1.sp hg (fun g' dr e' => aL h1.sv h1.sp (by decide) g' e' dr)
 have cB : bW w W' := h1.below.grown hg h1.below.size (fun k hk => (h1.sv.lt k hk).1)
 have dV := Qj.stored 4 (.slice Qs' (raw.length + 1) cs')
 have hD := (Qj.lt _ rfl).1
 have Et : ∀ j, W'.cell? ⟨D, j, none⟩ = (wr.alloc o).cell? ⟨D, j, none⟩ ∨ 15 ≤ j := by
  intro j
  by_cases hj : j < 15
  ·left
   rw [Qj.cellAt j oM, h1.o.cellAt j oM]
  exact .inr oM
 refine ⟨Qs', cs', rfl, fun j u _ hu => ?_, Qj.frozenAt _, ?_, cB.setCell (p := ⟨D, 4, none⟩) hD _, bN VS dV.2 (fun g hg e => aL Qj VS (by decide) g e hg), ?_, ?_, bN gT dV.2 (fun g hg e => aL Qj gT (by decide) g e hg), ?_, h.ne⟩
 ·have pY := (hb.cell (p := ⟨D, j, none⟩) (h.o.lt _ rfl).2).trans hu
  rcases Et j with e | e
  ·exact e.trans pY
  exfalso
  have h15 := h1.o.2
  rcases h15 with ⟨e1, _⟩ | ⟨g1, cap, cur, e1, _, hgc, _, _, kY, _⟩
  ·cases e1
  injection e1 with e2 _ e4
  injection e2 with e2
  injection e2 with e2
  subst e2
  subst e4
  rw [cell_of_row _ D j cur 43 (0, 0) hgc] at pY
  have : j < cur.size := by
   have := (Array.getElem?_eq_some_iff.1 pY).1
   exact this
  omega
 ·rw [Qj.cellAt 4 oM]
  rfl
 ·refine bN iF dV.2 (fun g' hg e => ?_)
  have e1 : D8 = g' := by simpa [Value.ownBlock] using hg
  have e2 : D = g' := by simpa using e
  exact h.ne (e1.trans e2.symm)
 ·have e : (rL fi bl Q n cq Qs raw.length cs seq gh av).set 4 (.slice Qs' (raw.length + 1) cs') = rL fi bl Q n cq Qs' (raw ++ [y]).length cs' seq gh av := by
   simp [rL]
  rw [← e]
  exact dV.1
 have hl : (raw ++ [y]).length = raw.length + 1 := by simp
 rw [hl]
 exact bN ho dV.2 (fun g hg e => aL Qj ho (by decide) g e hg)
end
structure Jj (w wr : World) (v : Value) (vs : List Value) (ps : List (List Int)) : Prop where
 own : wr.ownsRow w.heap.size 32 1 v ps.length vs
 pg : ∀ (t : Nat) p, ps[t]? = some p → ∃ Q m c, vs[t]? = some (.slice Q m c) ∧ p.length = m ∧ m ≤ c ∧ c ≤ maxLen ∧ cn (fun b => v.ownBlock = some b) wr Q (ag .u8 p)
theorem Jj.nil {wr : World} : Jj w wr (.slice none 0 0) [] [] := ⟨World.ownsRow_nil _ _ _ _, fun t p h => by simp at h⟩
theorem Jj.ab {wr : World} (h : Jj w wr v vs ps) (hb : bW wr w') : Jj w w' v vs ps := by
 refine ⟨aD h.own hb, fun t p hp => ?_⟩
 obtain ⟨Q, m, c, a1, a2, a3, a4, a5⟩ := h.pg t p hp
 exact ⟨Q, m, c, a1, a2, a3, a4, a5.below hb⟩
theorem yu {xs : List Value} (h : cn (fun b => v.ownBlock = some b) w A xs) (hg : w.grownBy w' v.ownBlock) (hv : v'.ownBlock = v.ownBlock ∨ v'.ownBlock = some w.heap.size) : cn (fun b => v'.ownBlock = some b) w' A xs := fun hx => by
 obtain ⟨b, off, e, aW, hn, hc⟩ := h hx
 refine ⟨b, off, e, Nat.lt_of_lt_of_le aW hg.size, fun hb => ?_, fun j u hu => (cell_of_block (hg.block b aW (fun e' => hn e'.symm))).trans (hc j u hu)⟩
 rcases hv with e1 | e1
 ·rw [e1] at hb
  exact hn hb
 rw [e1] at hb
 injection hb with hb
 omega
theorem Jj.push {Q : Option Addr} (h : Jj w W v vs ps) (hp : cn (fun b => v.ownBlock = some b) W Q (ag .u8 p)) (h1 : p.length = m) (h2 : m ≤ c) (h3 : c ≤ maxLen) 
 (ho : W'.ownsRow w.heap.size 32 1 v' (ps.length + 1) (vs ++ [.slice Q m c])) (hg : (W.alloc o).grownBy W' v.ownBlock) (hv : v'.ownBlock = v.ownBlock ∨ v'.ownBlock = some (W.alloc o).heap.size) : Jj w W' v' (vs ++ [.slice Q m c]) (ps ++ [p]) := by
 have hb : bW W (W.alloc o) := bV.alloc cV o
 have hL := h.ab hb
 have Ik : vs.length = ps.length := by have := h.own.1; simpa using this
 refine ⟨by rw [List.length_append]; exact ho, fun t q hq => ?_⟩
 by_cases e : t < ps.length
 ·rw [List.getElem?_append_left e] at hq
  obtain ⟨Q', m', c', a1, a2, a3, a4, a5⟩ := hL.pg t q hq
  exact ⟨Q', m', c', by rw [List.getElem?_append_left oM]; exact a1, a2, a3, a4, yu a5 hg hv⟩
 have e2 : t = ps.length := by
  have := (List.getElem?_eq_some_iff.1 hq).1
  simp at this
  omega
 subst e2
 rw [List.getElem?_append_right cV, Nat.sub_self] at hq
 simp at hq
 subst hq
 exact ⟨Q, m, c, by rw [List.getElem?_append_right oM, Ik, Nat.sub_self]; rfl, h1, h2, h3, yu (hp.below hb) hg hv⟩
theorem Jj.rd {wr : World} (h : Jj w wr (.slice A k c) vs ps) : lU (fun _ => False) wr A ps := by
 have Ik : vs.length = ps.length := by have := h.own.1; simpa using this
 refine ⟨vs, ?_, Ik, fun t p hp => ?_⟩
 ·obtain ⟨A', c', e, _, _, hr⟩ := bL h.own
  injection e with e1 _ _
  rw [e1]
  exact fun hx => by
   obtain ⟨b, off, e2, aW, hc⟩ := hr hx
   exact ⟨b, off, e2, aW, fun h => h, hc⟩
 obtain ⟨Q, m, c, a1, a2, a3, a4, a5⟩ := h.pg t p hp
 exact ⟨Q, m, c, a1, a2, a3, a4, a5.dQ (fun _ _ h => h.elim)⟩
theorem cf.high {x : Rc} (h : cf X w x g) (hb : bW w w') (hY : ∀ b, Y b → w.heap.size ≤ b) : cf Y w' x g := by
 have key : ∀ A xs, cn X w A xs → cn Y w' A xs := fun A xs hr hx => by
  obtain ⟨b, off, e, aW, _, hc⟩ := hr hx
  exact ⟨b, off, e, Nat.lt_of_lt_of_le aW hb.size, fun hy => by have := hY b hy; omega, fun j u hu => (hb.cell (p := ⟨b, off + j, none⟩) aW).trans (hc j u hu)⟩
 exact ⟨h.ok, key _ _ h.a, h.a1, h.a2, key _ _ h.b, h.b1, h.b2, key _ _ h.p, h.p1, h.p2⟩
section
variable {w wr : World} {D4 D8 D n cq cs : Nat} {x : Rc} {g : Fl} {fi bl seq gh av : Int} {Q Qs : Option Addr} {sp : List eB} {raw : List Int}
theorem qu.beside (h : qu w wr D4 D8 D x g fi bl Q n cq sp Qs cs raw seq gh av) (hv : wr.ownsRow w.heap.size 32 1 v k vs) (hg : wr.grownBy w' v.ownBlock) : qu w w' D4 D8 D x g fi bl Q n cq sp Qs cs raw seq gh av :=
 ⟨h.below.grown hg h.below.size (fun k hk => (hv.lt k hk).1), bN h.o4 hg (fun g' dr e' => aL hv h.o4 (by decide) g' e' dr), bN h.o8 hg (fun g' dr e' => aL hv h.o8 (by decide) g' e' dr),
  bN h.o hg (fun g' dr e' => aL hv h.o (by decide) g' e' dr), bN h.sp hg (fun g' dr e' => aL hv h.sp (by decide) g' e' dr), bN h.sv hg (fun g' dr e' => aL hv h.sv (by decide) g' e' dr), h.ne⟩
end
structure AB (s : St) (raw : List Int) (seq gh av : Int) : Prop where
 rq : seq = s.seq
 rb : gh = s.block
 rs : av = s.av
 rl : raw.length = s.ax.length
 rg : ez s.ax raw = s.an
theorem AB.no {raw : List Int} {seq av : Int} (h : AB s raw seq gh av) {d : Int × List Int × Int} (hd : ff (bT f (aG s f b j) s.k) = d) (hn : d.2.2 ≠ 0 ∨ d.2.1.length ≠ s.ax.length ∨ d.1 ≤ s.seq) : AB (cT f s b j) raw seq gh av := by
 rw [iu hd hn]
 exact h
theorem AB.yes {raw : List Int} {seq av : Int} (h : AB s raw seq gh av) {d : Int × List Int × Int} (hd : ff (bT f (aG s f b j) s.k) = d) (hn : ¬ (d.2.2 ≠ 0 ∨ d.2.1.length ≠ s.ax.length ∨ d.1 ≤ s.seq)) : AB (cT f s b j) d.2.1 d.1 b j := by
 subst hd
 unfold cT
 simp only
 rw [iN hn]
 exact ⟨rfl, rfl, rfl, by simp only; omega, rfl⟩
theorem OL (x : Rc) (g : Fl) (fi bl : Int) (f : Nat) (Q : Option Addr) (n cq : Nat) (Qs : Option Addr) (N cs : Nat) (seq gh av : Int) (b j : Nat) (w : World) (hf : fi = f) (Nm : f ≤ 64) (hb : b ≤ 64) (hj : j ≤ 64) (hn : n ≤ 48) (hp : g.pg ≤ 16) :
 Calls prog 81 #[.agg (rL fi bl Q n cq Qs N cs seq gh av).toArray, x.v g, .int .i64 b, .int .i64 j] w fun e w' => e = .returned (.int .i64 (((f + b) * g.pg + j * cO n : Nat) : Int)) ∧ bW w w' := by
 subst hf
 obtain ⟨B, cc, D, d, P, r⟩ := x
 show Calls prog 81 #[.agg #[.int .i64 (f : Int), .int .i64 bl, .slice Q n cq, .slice none 0 0, .slice Qs N cs, .int .i64 seq, .int .i64 gh, .int .i64 av, .slice none 0 0, .slice none 0 0, .int .i64 0, .int .i64 (-1), .int .i64 0, .int .i64 0, .bool false], .agg #[.slice B g.img.length cc, .int .i64 g.pg, .slice D g.aq.length d, .bool g.aF, .int .i64 g.be, .slice P g.az.length r], _, _] w _
 have jk : Hid (∀ w, Calls prog 80 #[.int .i64 (n : Int)] w fun e w' => e = .returned (.int .i64 (cO n : Nat)) ∧ w' = w) := fun w => (oC n oM w).mono fun _ _ h => ⟨h.1, h.2.symm⟩
 have jG := jL hn
 obtain ⟨K, hK⟩ := ex (cO n)
 obtain ⟨pg, iA⟩ := ex g.pg
 obtain ⟨fb, Dt⟩ := ex (f + b)
 obtain ⟨M1, Ad⟩ := ex (fb * pg)
 obtain ⟨M2, xP⟩ := ex (j * K)
 rw [hK] at jk jG
 rw [iA] at hp
 have WG : M1 ≤ 128 * 16 := by rw [← Ad]; exact Nat.mul_le_mul oM hp
 have aaM : M2 ≤ 64 * 8 := by rw [← xP]; exact Nat.mul_le_mul hj jG
 rw [hK, iA, Dt, Ad, xP]
 have t1 : IntKind.i64.wrap ((f : Int) + (b : Int)) = (fb : Int) := by rw [show (f : Int) + (b : Int) = (fb : Int) by omega]; exact bf _ oM oM
 have t2 : IntKind.i64.wrap ((fb : Int) * (pg : Int)) = (M1 : Int) := by
  have e : (fb : Int) * (pg : Int) = (M1 : Int) := by rw [← Ad]; push_cast; rfl
  rw [e]
  exact bf _ oM oM
 have t3 : IntKind.i64.wrap ((j : Int) * (K : Int)) = (M2 : Int) := by
  have e : (j : Int) * (K : Int) = (M2 : Int) := by rw [← xP]; push_cast; rfl
  rw [e]
  exact bf _ oM oM
 have t4 : IntKind.i64.wrap ((M1 : Int) + (M2 : Int)) = ((M1 + M2 : Nat) : Int) := by
  have e : (M1 : Int) + (M2 : Int) = ((M1 + M2 : Nat) : Int) := by push_cast; rfl
  rw [e]
  exact bf _ oM oM
 generalize M1 + M2 = M at *
 clear hK iA Dt Ad xP
 go_enter func81, ntmps81
 go_wp2
 go_quiet ((go_at_call 80; with_reducible exact Calls.quiet_of_same (jk.out _)))
 go_wp2
 go_ret
 exact ⟨rfl, Below.drewN (ck _ _ _) _⟩
theorem m6 (f : Fl) : ((dx f).2 = true ∧ (dx f).1.aF = true) ∨ ((dx f).2 = false ∧ (dx f).1.aF = f.aF) := by
 unfold dx
 split
 ·exact .inl ⟨rfl, rfl⟩
 split
 ·exact .inr ⟨rfl, rfl⟩
 exact .inr ⟨rfl, rfl⟩
theorem KL (hf : f.ok) (hP : P < f.aq.length * f.pg) : 64 * P + 64 * 1 ≤ f.img.length := by rw [hf.len]; omega
structure Xm (f g : Fl) (P : Nat) (b : List Int) (c : Int) : Prop where
 pg : g.pg = f.pg
 aq : g.aq = f.aq
 ok : (c = 0 ∧ g.aF = false ∧ ∀ x, aB g x = if x = P then b else aB f x) ∨ (c = 20 ∧ g.aF = true ∧ ∀ x, aB g x = if x = P then eK b f.az else aB f x)
theorem pR (hf : f.ok) (hd : f.aF = false) (hP : P < f.aq.length * f.pg) {b : List Int} (hb : b.length = 64) (cB : aB f P = cM) :
 Xm f (bz f (P : Int) b).1 P b (bz f (P : Int) b).2 := by
 have h0 : lZ f (P : Int) = 0 := by unfold lZ; rw [hd, iN (by decide), iN oM]
 have sU : ch (aB f P) = true := (iX (by rw [cB, qn])).2 cB
 obtain ⟨e1, e2, e3, e4⟩ := dW f
 have jo := KL hf hP
 have key : bz f (P : Int) b = if (dx f).2 = true then ({ (dx f).1 with img := lay f.img (64 * P) (eK b f.az) }, 20) else ({ (dx f).1 with img := lay f.img (64 * P) b }, 0) := by
  unfold bz
  rw [iN (by rw [h0]; decide), iN oM, Int.toNat_natCast, iN (by rw [sU]; decide)]
 rw [key]
 rcases m6 f with ⟨c1, c2⟩ | ⟨c1, c2⟩
 ·rw [c1, iP rfl]
  refine ⟨e1, e3, .inr ⟨rfl, c2, fun x => ?_⟩⟩
  rw [mQ (f := f) (p := P) (m := 1) rfl (by rw [db, hb]) jo]
  by_cases hx : x = P
  ·subst hx
   rw [iP oM, iP rfl, Nat.sub_self, Nat.mul_zero, List.drop_zero, List.take_of_length_le (by rw [db]; omega)]
  rw [iN oM, iN hx]
 rw [c1, iN (by decide)]
 refine ⟨e1, e3, .inl ⟨rfl, c2.trans hd, fun x => ?_⟩⟩
 rw [mQ (f := f) (p := P) (m := 1) rfl (by rw [hb]) jo]
 by_cases hx : x = P
 ·subst hx
  rw [iP oM, iP rfl, Nat.sub_self, Nat.mul_zero, List.drop_zero, List.take_of_length_le oM]
 rw [iN oM, iN hx]
structure TR (f g : Fl) (B : Nat) (c : Int) : Prop where
 pg : g.pg = f.pg
 aq : g.aq = fa f.aq B
 ok : (c = 0 ∧ g.aF = false ∧ ∀ x, aB g x = if B * f.pg ≤ x ∧ x < B * f.pg + f.pg then cM else aB f x) ∨
  (c = 20 ∧ g.aF = true ∧ ∀ x, aB g x = if B * f.pg ≤ x ∧ x < B * f.pg + f.pg then eK (aB f x) (f.az.drop (64 * (x - B * f.pg))) else aB f x)
theorem nY (hf : f.ok) (hd : f.aF = false) (hB : B < f.aq.length) : TR f (aT f (B : Int)).1 B (aT f (B : Int)).2 := by
 obtain ⟨e1, e2, e3, e4⟩ := dW f
 have nA : B * f.pg + f.pg ≤ f.aq.length * f.pg := by
  have := Nat.mul_le_mul_right f.pg (show B + 1 ≤ f.aq.length by omega)
  rw [Nat.add_mul, Nat.one_mul] at this
  exact this
 have jo : 64 * (B * f.pg) + 64 * f.pg ≤ f.img.length := by rw [hf.len]; omega
 have Wm : 64 * f.pg * B = 64 * (B * f.pg) := by rw [Nat.mul_assoc, Nat.mul_comm f.pg B]
 have key : aT f (B : Int) = if (dx f).2 = true then ({ (dx f).1 with img := lay f.img (64 * (B * f.pg)) (eK ((f.img.drop (64 * (B * f.pg))).take (64 * f.pg)) f.az), aq := fa f.aq B }, 20)
  else ({ (dx f).1 with img := lay f.img (64 * (B * f.pg)) (List.replicate (64 * f.pg) 255), aq := fa f.aq B }, 0) := by
  unfold aT
  rw [iN (by rw [hd]; decide), iN oM, Int.toNat_natCast, Wm]
 rw [key]
 have hlen : ((f.img.drop (64 * (B * f.pg))).take (64 * f.pg)).length = 64 * f.pg := by rw [List.length_take, List.length_drop]; omega
 rcases m6 f with ⟨c1, c2⟩ | ⟨c1, c2⟩
 ·rw [c1, iP rfl]
  refine ⟨e1, rfl, .inr ⟨rfl, c2, fun x => ?_⟩⟩
  rw [mQ (f := f) (p := B * f.pg) (m := f.pg) rfl (by rw [db, hlen]) jo]
  by_cases hx : B * f.pg ≤ x ∧ x < B * f.pg + f.pg
  ·rw [iP hx, iP hx, sk, sj]
   congr 1
   unfold aB
   rw [List.drop_take, List.drop_drop, List.take_take]
   congr 1
   ·omega
   congr 1
   omega
  rw [iN hx, iN hx]
 rw [c1, iN (by decide)]
 refine ⟨e1, rfl, .inl ⟨rfl, c2.trans hd, fun x => ?_⟩⟩
 rw [mQ (f := f) (p := B * f.pg) (m := f.pg) rfl (by rw [List.length_replicate]) jo]
 by_cases hx : B * f.pg ≤ x ∧ x < B * f.pg + f.pg
 ·rw [iP hx, iP hx, List.drop_replicate, List.take_replicate]
  unfold cM
  congr 1
  omega
 rw [iN hx, iN hx]
theorem wU (hf : f.ok) (h : a + n ≤ f.aq.length * f.pg) : cG f a n = true ↔ ∀ i, i < n → aB f (a + i) = cM := by
 unfold cG
 rw [List.all_eq_true]
 constructor
 ·intro hb i hi
  exact (iX (kn hf oM)).1 (hb i (List.mem_range.2 hi))
 intro hb i hi
 have Co := List.mem_range.1 hi
 exact (iX (kn hf oM)).2 (hb i Co)
theorem split_mul {p a' r r' : Nat} (h : a * p + r = a' * p + r') (hr : r < p) (hr' : r' < p) : a = a' ∧ r = r' := by
 have h1 : (a * p + r) / p = a := by rw [Nat.mul_comm, Nat.mul_add_div oM, Nat.div_eq_of_lt hr]; omega
 have h2 : (a' * p + r') / p = a' := by rw [Nat.mul_comm, Nat.mul_add_div oM, Nat.div_eq_of_lt hr']; omega
 have e : a = a' := by rw [← h1, ← h2, h]
 subst e
 exact ⟨rfl, oM⟩
theorem bD.Ku (h : bD f s) {b' j' i' : Nat} (hj : j < bm s f) (hj' : j' < bm s f) (hi : i < s.k) (Co : i' < s.k) (e : aG s f b j + i = aG s f b' j' + i') : b = b' ∧ j = j' ∧ i = i' := by
 have h1 := h.qD hj
 have h2 := h.qD hj'
 unfold aG at e
 rw [Nat.add_assoc, Nat.add_assoc] at e
 obtain ⟨e1, e2⟩ := split_mul e oM oM
 obtain ⟨e3, e4⟩ := split_mul e2 hi Co
 exact ⟨oM, e3, e4⟩
theorem bD.mM (h : bD f s) (hj : j < bm s f) (hi : i < s.k) : (B * f.pg ≤ aG s f b j + i ∧ aG s f b j + i < B * f.pg + f.pg) ↔ B = s.first + b := by
 have h1 := h.qD hj
 unfold aG
 constructor
 ·intro ⟨a1, a2⟩
  obtain ⟨r, hr⟩ : ∃ r, (s.first + b) * f.pg + j * s.k + i = B * f.pg + r := ⟨(s.first + b) * f.pg + j * s.k + i - B * f.pg, oM⟩
  rw [Nat.add_assoc] at hr
  have := split_mul hr oM oM
  exact this.1.symm
 rintro rfl
 omega
theorem bD.sL (h : bD f s) (hb : b < s.aa) (hj : j < bm s f) (hi : i < s.k) : s.first * f.pg ≤ aG s f b j + i ∧ aG s f b j + i < (s.first + s.aa) * f.pg := by
 have h1 := h.qD hj
 have h2 : (s.first + b + 1) * f.pg ≤ (s.first + s.aa) * f.pg := Nat.mul_le_mul_right _ oM
 have h3 : s.first * f.pg ≤ (s.first + b) * f.pg := Nat.mul_le_mul_right _ oM
 rw [Nat.add_mul (s.first + b), Nat.one_mul] at h2
 unfold aG
 omega
def Lg (sp : List eB) (v : List Int) : Prop := ez sp v = v
theorem B8 {p : eB} (h : fA p = false) (x : Int) : ey p (ey p x) = ey p x := by
 unfold fA at h
 rw [decide_eq_false_iff_not] at h
 unfold ey
 by_cases hx : iy p x = true
 ·rw [iP hx, iP hx]
 rw [iN hx]
 have : iy p p.df = true := by unfold iy; rw [decide_eq_true_eq]; omega
 rw [iP this]
theorem Ef (h : sp.any fA = false) (v : List Int) : Lg sp (ez sp v) := by
 unfold Lg
 induction sp generalizing v with
 | nil => rfl
 | cons p sp ih =>
  cases v with
  | nil => rfl
  | cons x v =>
   rw [List.any_cons, Bool.or_eq_false_iff] at h
   show ey p (ey p x) :: ez sp (ez sp v) = _
   rw [B8 h.1, ih h.2]
   rfl
theorem Lg.set {v : List Int} (h : Lg sp v) {p : eB} (hp : sp[i]? = some p) (hx : iy p x = true) : Lg sp (v.set i x) := by
 unfold Lg ez at h ⊢
 apply List.ext_getElem?
 intro j
 rw [List.getElem?_zipWith, List.getElem?_set]
 by_cases e : i = j
 ·subst e
  rw [iP rfl, hp]
  by_cases aW : i < v.length
  ·rw [iP aW]
   simp [ey, hx]
  rw [iN aW]
 rw [iN e]
 have := congrArg (fun l : List Int => l[j]?) h
 simp only [List.getElem?_zipWith] at this
 exact this
def fZ (s : St) : Option (Int × Nat × Nat × List Int) := if s.av = -1 then none else some (s.seq, s.block, s.av.toNat, s.an)
structure Tgt (f : Fl) (s : St) : Prop where
 cO : s.bZ = dS (s.seq + 1) s.values
 vl : s.values.length = s.ax.length
 lg : Lg s.ax s.values
 ne : s.bH = s.block → s.av < s.bg
 nx : s.bH = s.block ∨ s.bH = (s.block + 1) % s.aa
 er : s.erase = true → s.bH ≠ s.block ∧ s.bg = 0 ∧ s.done = 0
 pre : s.erase = false → ∀ i, i < s.k → aB f (aG s f s.bH s.bg + i) = if i < s.done then eL (s.seq + 1) s.values i else cM
structure dU (f : Fl) (s : St) : Prop where
 wv : f.ok
 ok : bD f s
 up : f.aF = false
 br : s.af = false
 Bu : ∀ x, s.first * f.pg ≤ x → x < (s.first + s.aa) * f.pg → rC (aB f x)
 new : eY f s (fZ s)
 q0 : s.av = -1 → s.seq = 0 ∧ s.block = 0 ∧ s.an = s.ax.map eB.df
 xq : Lg s.ax s.an
 uT : Lg s.ax s.aj
 Bv : s.bt = true → Tgt f s
structure xm (f : Fl) (s : St) : Prop where
 wv : f.ok
 ok : bD f s
 dn : f.aF = true
 br : s.af = true
 bu : s.bt = true
 Bu : ∀ x, s.first * f.pg ≤ x → x < (s.first + s.aa) * f.pg → rC (aB f x)
 new : eY f s (fZ s) ∨ (eY f s (some (s.seq + 1, s.bH, s.bg, s.values)) ∧ 1 ≤ s.done)
 xq : Lg s.ax s.an
 Z3 : Lg s.ax s.values
 q0 : s.av = -1 → s.block = 0 ∧ s.an = s.ax.map eB.df
theorem eY.congr {c : Option (Int × Nat × Nat × List Int)} (h : eY f s c) (hb : s'.aa = s.aa) (hs : s'.ax = s.ax) (hp : g.pg = f.pg) (hr : ∀ b j, b < s.aa → j < bm s f → eU g s' b j = eU f s b j) : eY g s' c := by
 have ht : bm s' g = bm s f := by unfold bm St.k; rw [hs, hp]
 cases c with
 | none =>
  intro b j h1 h2
  rw [hb] at h1
  rw [ht] at h2
  rw [hr b j h1 h2]
  exact h b j h1 h2
 | some c =>
  obtain ⟨q, b, j, v⟩ := c
  obtain ⟨n1, n2, n3, n4⟩ := h
  refine ⟨by rw [hb]; exact n1, by rw [ht]; exact n2, by rw [hr b j n1 n2]; exact n3, fun b' j' q' v' h1 h2 h3 => ?_⟩
  rw [hb] at h1
  rw [ht] at h2
  rw [hr b' j' h1 h2] at h3
  exact n4 b' j' q' v' h1 h2 h3
theorem eY.less {c : Option (Int × Nat × Nat × List Int)} (h : eY f s c) (hb : s'.aa = s.aa) (hs : s'.ax = s.ax) (hp : g.pg = f.pg) 
 (hr : ∀ b j, b < s.aa → j < bm s f → eU g s' b j = eU f s b j ∨ (eU g s' b j = none ∧ ∀ q v, c ≠ some (q, b, j, v))) : eY g s' c := by
 have ht : bm s' g = bm s f := by unfold bm St.k; rw [hs, hp]
 cases c with
 | none =>
  intro b j h1 h2
  rw [hb] at h1
  rw [ht] at h2
  rcases hr b j h1 h2 with e | ⟨e, _⟩
  ·rw [e]; exact h b j h1 h2
  exact e
 | some c =>
  obtain ⟨q, b, j, v⟩ := c
  obtain ⟨n1, n2, n3, n4⟩ := h
  refine ⟨by rw [hb]; exact n1, by rw [ht]; exact n2, ?_, fun b' j' q' v' h1 h2 h3 => ?_⟩
  ·rcases hr b j n1 n2 with e | ⟨_, e⟩
   ·rw [e]; exact n3
   exact absurd rfl (e q v)
  rw [hb] at h1
  rw [ht] at h2
  rcases hr b' j' h1 h2 with e | ⟨e, _⟩
  ·rw [e] at h3; exact n4 b' j' q' v' h1 h2 h3
  rw [e] at h3; cases h3
theorem dU.P6 (h : dU f s) {v : List Int} (hb : b < s.aa) (hj : j < bm s f) (hr : eU f s b j = some (q, v)) : q < s.seq + 1 := by
 have hn := h.new
 unfold fZ at hn
 split at hn
 ·rw [hn b j hb hj] at hr; cases hr
 obtain ⟨n1, n2, n3, n4⟩ := hn
 rcases n4 b j q v hb hj hr with ⟨rfl, rfl⟩ | e
 ·rw [n3] at hr
  injection hr with hr
  simp only [Prod.mk.injEq] at hr
  omega
 omega
theorem dU.EZ (h : dU f s) (fR : s.block ≠ b ∨ s.av < j) : ∀ q v, fZ s ≠ some (q, b, j, v) := by
 intro q v e
 unfold fZ at e
 split at e
 ·cases e
 injection e with e
 simp only [Prod.mk.injEq] at e
 obtain ⟨_, e2, e3, _⟩ := e
 have := h.ok.s1
 omega
end Go.Proofs.YtjdknddnanopaaaGreat
