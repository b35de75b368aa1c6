/-
  Part 14 of the proof.
-/
import Derived.Deep.MidRow
import Derived.Great.BuildSlice
import Derived.Test.YtjdknddnanopaaaGreatR13
namespace Go.Proofs.YtjdknddnanopaaaGreat
open Go.RowKit Tryz
set_option maxRecDepth 100000
set_option maxHeartbeats 16000000
set_option linter.all false
variable {W w w' w0 : World} {A C D : Array Value} {B M N i j k n : Nat} {a : Go.Act} {x : Rc} {f g : Fl} {b t : TypeId} {X : Nat → Prop} {oi : Oper} {s : St} {ax : Array Bool} {P : Program} {o : Obj} {aa first : Int} {c d e : Value} {fn : Func} {p u : Tmp}
theorem wC (d : Nat) (w : World) : (binOp .eql 29 (.pointer (some ⟨d, 0, none⟩)) (.pointer none)).run prog w = .ok (.bool false) w := by kernel_rfl
theorem yK (a : Addr) (n c : Nat) (w : World) : (binOp .neq 32 (.slice (some a) n c) (.slice none 0 0)).run prog w = .ok (.bool true) w := by kernel_rfl
theorem yL (w : World) : (binOp .neq 32 (.slice none 0 0) (.slice none 0 0)).run prog w = .ok (.bool false) w := by kernel_rfl
section
variable {w0 w w' : World} {L : Lc} {S : Sc} {K : Kc} {f : Fl} {b : Bk}
theorem cF (h : bo w0 w L S K f b) (ho : bC f b.st) (ii : Int) (i : Nat) (Np : ii = i) (hi : i < b.st.aw.length) :
 Calls prog 68 #[.pointer (some ⟨K.D, 0, none⟩), .int .i64 ii] w fun e w' => e = .returned (.int .i64 (aV b i)) ∧ bW w w' := by
 have c3 := h.row 3 _ rfl
 have HS := iD (Hq h.st ho)
 obtain ⟨x, hx⟩ := getElem?_of_lt (l := b.st.saved) (k := i) (by rw [ho.sl]; exact hi)
 have HX : Hid (aV b i = x) := by unfold aV; rw [Hid, hx]; rfl
 have hn : i < b.st.aw.length := hi
 have qY := ho.n2
 have MI := iD hx
 generalize b.st.aw.length = n at *
 clear h ho hx
 subst Np
 go_enter func68, ntmps68
 go_wp2_with (fail)
 refine HS.mono ?_
 rintro e w1 ⟨v1, rfl, hO, hB⟩
 obtain ⟨A, c, rfl, h1, h2, h3⟩ := bM hO
 obtain ⟨bb, off, rfl, cB, e0⟩ := h3.int MI
 have HB := iD hB
 clear hO hB h3
 go_wp2
 go_ret
 exact ⟨by rw [HX]; rfl, HB⟩
theorem ff (h : bo w0 w L S K f b) : Calls prog 73 #[.pointer (some ⟨K.D, 0, none⟩)] w fun e w' => e = .returned (fx (if (aq b f).af = true then 20 else 0)) ∧ bo w0 w' L S K f (aq b f) ∧ ah (fun g => g = K.D) w w' := by
 have e1 := wC K.D
 have c0 := h.row 0 _ rfl
 have c4 := h.row 4 _ rfl
 have z4 := h.fz 4
 have HD := iD (oc h.st.fl)
 obtain ⟨r, hr⟩ := ex (aq b f).af
 have HC := iD (h.jX 4 (.bool r) (aq b f) rfl rfl rfl (by unfold Kc.cells; rw [hr]; rfl))
 rw [hr]
 obtain ⟨W, hW⟩ := ex (w.setCell ⟨K.D, 4, none⟩ (.bool r))
 rw [hW] at HC
 have d4 : W.cell? ⟨K.D, 4, none⟩ = some (.bool r) := by have := HC.1.row 4 _ rfl; rw [hr] at this; exact this
 have Ox : r = (b.af || f.aF) := hr.symm
 clear hr h
 by_cases hb : b.af = true
 ·have hrt : r = true := by rw [Ox, hb]; rfl
  subst hrt
  rw [hb] at c4
  clear hb Ox
  go_enter func73, ntmps73
  go_wp2
  go_ret
  exact ⟨rfl, HC⟩
 have dO : b.af = false := by simpa using hb
 rw [dO] at c4
 have Du : f.aF = r := by rw [Ox, dO]; rfl
 rw [Du] at HD
 clear hb dO Ox Du
 cases r with
 | true =>
  go_enter func73, ntmps73
  go_wp2_with (fail)
  refine HD.mono ?_
  rintro e w1 ⟨rfl, rfl⟩
  go_wp2
  go_ret
  exact ⟨rfl, HC⟩
 | false =>
  go_enter func73, ntmps73
  go_wp2_with (fail)
  refine HD.mono ?_
  rintro e w1 ⟨rfl, rfl⟩
  go_wp2
  go_ret
  exact ⟨rfl, HC⟩
theorem oQ (h : bo w0 w L S K f b) : Calls prog 75 #[.pointer (some ⟨K.D, 0, none⟩)] w fun e w' => e = .returned (.iface 108 (.int .i64 20)) ∧ bo w0 w' L S K f { b with af := true } ∧ ah (fun g => g = K.D) w w' := by
 have c4 := h.row 4 _ rfl
 have z4 := h.fz 4
 have HC := iD (h.jX 4 (.bool true) { b with af := true } rfl rfl rfl rfl)
 clear h
 go_enter func75, ntmps75
 go_wp2
 go_ret
 exact ⟨rfl, HC⟩
theorem oC.yq {K : Kc} {d : List Int} (h : oC X w K (some d)) (hd : d ≠ []) : ∃ a, K.A = some a := by
 obtain ⟨bb, off, e, _⟩ := h.1 (by unfold ag; simpa using hd)
 exact ⟨_, e⟩
theorem dG (h : bo w0 w L S K f b) (hd : ∀ d, b.data = some d → d ≠ []) : Calls prog 85 #[.pointer (some ⟨K.D, 0, none⟩)] w fun e w' => e = .returned (.bool (bQ b)) ∧ w = w' := by
 have rZ := h.row 11 _ rfl
 have DI := h.row 13 _ rfl
 have Ml := h.row 14 _ rfl
 obtain ⟨A, c, hv, h1, h2⟩ := h.er.form
 have HDT := iD h.dt
 rw [hv] at rZ
 have YR : b.erase.length ≤ 9223372036854775807 := by unfold maxLen at h2; omega
 cases he : b.erase with
 | cons e l =>
  have HW : Hid (bQ b = true) := by unfold bQ; rw [Hid, he]; rfl
  rw [he] at rZ YR
  simp only [List.length_cons] at rZ YR
  obtain ⟨m, hm⟩ := ex (l.length + 1)
  rw [hm] at rZ YR
  have nR : 0 < m := oM
  clear h hm he hv h1 h2 hd
  go_enter func85, ntmps85
  go_wp2
  go_ret
  exact ⟨by rw [HW]; rfl, rfl⟩
 | nil =>
  rw [he] at rZ
  simp only [List.length_nil] at rZ
  cases uT : b.data with
  | some d =>
   obtain ⟨a, ha⟩ := oC.yq (by have := HDT.out; rw [uT] at this; exact this) (hd d uT)
   have HW : Hid (bQ b = true) := by unfold bQ; rw [Hid, he, uT]; rfl
   rw [ha] at DI
   have q1 := yK a K.n K.c
   clear h he hv h1 h2 hd uT ha
   go_enter func85, ntmps85
   go_wp2
   go_ret
   exact ⟨by rw [HW]; rfl, rfl⟩
  | none =>
   have HW : Hid (bQ b = b.bh) := by unfold bQ; rw [Hid, he, uT]; rfl
   obtain ⟨a1, a2, a3⟩ : K.A = none ∧ K.n = 0 ∧ K.c = 0 := by have := HDT.out; rw [uT] at this; exact this
   rw [a1, a2, a3] at DI
   have q1 := yL
   clear h he hv h1 h2 hd uT a1 a2 a3
   go_enter func85, ntmps85
   go_wp2
   go_ret
   exact ⟨by rw [HW]; rfl, rfl⟩
theorem qu (h : bo w0 w L S K f b) (sQ : b.aa = 2 * b.k + 2) (jE : b.k ≤ 8) (lk : b.first ≤ 64) (si : Int) (s : Nat) (Co : si = s) (hs : s ≤ 2) : Calls prog 86 #[.pointer (some ⟨K.D, 0, none⟩), .int .i64 si] w fun e w' => e = .returned (.int .i64 (cE b s : Nat)) ∧ ∃ q, w' = w.drewN q := by
 have c1 := h.row 1 _ rfl
 have c2 := h.row 2 _ rfl
 obtain ⟨k, hk⟩ := ex b.k
 obtain ⟨F, hF⟩ := ex b.first
 obtain ⟨M, hM⟩ := ex (s * k)
 have HB : Hid (((cE b s : Nat) : Int) = (F : Int) + 2 + (M : Int)) := by unfold cE; rw [Hid, hk, hF, hM]; push_cast; rfl
 rw [hk] at sQ jE
 obtain ⟨B, hB⟩ : ∃ B : Int, (b.aa : Int) = B := ⟨_, rfl⟩
 rw [hB] at c2
 rw [hF] at c1 lk
 have hB2 : B = 2 * (k : Int) + 2 := by rw [← hB, sQ]; push_cast; rfl
 have acs : M ≤ 16 := by rw [← hM]; have := Nat.mul_le_mul hs jE; omega
 have e1 : (s : Int) * (B - 2) = 2 * (M : Int) := by
  rw [hB2, ← hM, show 2 * (k : Int) + 2 - 2 = 2 * (k : Int) by omega, ← Int.mul_assoc, Int.mul_comm (s : Int) 2, Int.mul_assoc]
  push_cast
  rfl
 have q0 : IntKind.i64.wrap (B - 2) = B - 2 := IntWalk.i64_in _ oM
 have q1 : IntKind.i64.wrap ((s : Int) * (B - 2)) = 2 * (M : Int) := by rw [e1]; exact IntWalk.i64_in _ oM
 have q2 : (2 * (M : Int)).tdiv 2 = (M : Int) := by rw [Int.tdiv_eq_ediv_of_nonneg oM]; omega
 have q2' : 2 * (M : Int) / 2 = (M : Int) := oM
 have q3 : IntKind.i64.wrap ((F : Int) + 2) = (F : Int) + 2 := IntWalk.i64_in _ oM
 have q4 : IntKind.i64.wrap ((F : Int) + 2 + (M : Int)) = (F : Int) + 2 + (M : Int) := IntWalk.i64_in _ oM
 subst Co
 clear h sQ hk hF hM hB hB2 e1
 go_enter func86, ntmps86
 go_wp2_with (fail)
 go_quiet (fail)
 go_wp2
 go_ret
 exact ⟨by rw [HB]; rfl, _, rfl⟩
theorem CH {A : Option Addr} {c : Nat} {l : List Int} (h : bo w0 w L S K f b) (ho : bC f b.st) (ii : Int) (i : Nat) (Np : ii = i) (hi : i ≤ 9) (hn : l.length = n) (YQ : n ≤ 9) (hA : cn (bS L S) w A (aA l)) (dc : ls b.st i l) (hl : ∀ x ∈ l, dI x) :
 Calls prog 74 #[.pointer (some ⟨K.D, 0, none⟩), .int .i64 ii, .slice A n c] w fun e w' => e = .returned .nilIface ∧ bo w0 w' L S K f { b with st := dD b.st i l } ∧ ah (bS L S) w w' := by
 have g1 := ne_nil
 have HA := iD hA
 have gX := iD dc
 have HL := iD hl
 have HO := iD ho
 have HH := iD h
 have HN := iD hn
 clear hA dc hl ho h hn
 subst Np
 go_enter func74, ntmps74
 go_wp2_with (fail)
 go_loopw [12] (fun v wr => ∃ j : Nat, j ≤ n ∧ v = .int .i64 j ∧ bo w0 wr L S K f { b with st := dD b.st i (l.take j) } ∧ ah (bS L S) w wr) (fun v _ => n - (intOf v).toNat)
 case atStart => exact ⟨0, Nat.zero_le _, rfl, HH, ah.refl _ _⟩
 case round =>
  obtain ⟨r, hr, rfl, hS, hX⟩ := hrel
  have J2 := iD hS
  have Fx := iD hX
  clear hS hX
  by_cases EE : r < n
  ·obtain ⟨x, hx⟩ := getElem?_of_lt (l := l) (k := r) (by rw [HN]; exact EE)
   obtain ⟨bb, off, rfl, cB, e0⟩ := (HA.ao Fx).rd.int hx
   obtain ⟨t1, t2⟩ := vo gX hx
   have c3 := J2.row 3 _ rfl
   have eX := iD (BH J2.st (lu HO (fun y hy => HL y (List.mem_of_mem_take hy))) ((i : Int) + (r : Int)) (i + r) (by push_cast; rfl) x t1)
   rw [← t2] at eX
   clear hx cB t1 t2
   go_wp2_with (fail)
   refine eX.mono ?_
   rintro e w7 ⟨rfl, hS, hX⟩
   have Dd : Hid (bo w0 w7 L S K f { b with st := dD b.st i (l.take (r + 1)) }) := J2.prog hS rfl rfl hX
   have HX7 : Hid (ah (bS L S) w w7) := Fx.trans hX
   clear hS hX c3
   go_wp2_with (fail)
   go_roundw
   case rel => exact ⟨r + 1, oM, by go_num, Dd, HX7⟩
   case measure => simp [intOf]; omega
  have Oy : r = n := oM
  subst Oy
  have HT : Hid (l.take r = l) := List.take_of_length_le (by rw [HN]; exact Nat.le_refl _)
  have Dd : Hid (bo w0 wr L S K f { b with st := dD b.st i l }) := by have := J2.out; rw [HT.out] at this; exact this
  go_wp2
  go_ret
  exact ⟨rfl, Dd, Fx⟩
end
theorem B8 {b : Nat} (fh : s.aw.any fy = false) (h : Lg s.aw s.saved) : (cT f s b j).aw = s.aw ∧ Lg s.aw (cT f s b j).saved := by
 by_cases hc : (fg (bT f (aG s f b j) s.k)).2.2 ≠ 0 ∨ (fg (bT f (aG s f b j) s.k)).2.1.length ≠ s.aw.length ∨ (fg (bT f (aG s f b j) s.k)).1 ≤ s.seq
 ·rw [iv rfl hc]
  exact ⟨rfl, h⟩
 rw [j9 rfl hc]
 exact ⟨rfl, Eo fh _⟩
theorem vI {f : Fl} {b : Nat} {s : St} (fh : s.aw.any fy = false) (h : Lg s.aw s.saved) : ∀ n, (ee f b s n).aw = s.aw ∧ Lg s.aw (ee f b s n).saved
 | 0 => ⟨rfl, h⟩
 | n + 1 => by
  obtain ⟨h1, h2⟩ := vI fh h n
  rw [dR]
  have := B8 (f := f) (s := ee f b s n) (b := b) (j := n) (by rw [h1]; exact fh) (by rw [h1]; exact h2)
  rw [h1] at this
  exact this
theorem vJ {f : Fl} {n : Nat} {s : St} (fh : s.aw.any fy = false) (h : Lg s.aw s.saved) : ∀ m, (cR f n s m).aw = s.aw ∧ Lg s.aw (cR f n s m).saved
 | 0 => ⟨rfl, h⟩
 | m + 1 => by
  obtain ⟨h1, h2⟩ := vJ fh h m
  rw [fa]
  have := vI (f := f) (s := cR f n s m) (b := m) (by rw [h1]; exact fh) (by rw [h1]; exact h2) n
  rw [h1] at this
  exact this
theorem Ca {fi bl : Nat} {sp : List eB} (fh : sp.any fy = false) : (aJ f fi bl sp).aw = sp ∧ Lg sp (aJ f fi bl sp).saved :=
 vJ (s := dM fi bl sp) fh (tR fh) bl
theorem oO (h : f.ok) (hE : eC f first aa = 0) : bU f (dh f first aa) := by
 obtain ⟨hd, a, k, rfl, rfl, k1, k8, hw, hp⟩ := ml hE
 have hsz := ef h k8
 have oI := mj hE (aM f (2 * k + 2))
 have dc := iB (n := aM f (2 * k + 2)) oM
 have hs := kl dc oI
 obtain ⟨l1, l2⟩ := Ca (f := f) (fi := a) (bl := 2) (ic (aM f (2 * k + 2)))
 have e : dh f (a : Int) ((2 * k + 2 : Nat) : Int) = qg (aJ f a 2 (aH (aM f (2 * k + 2)))) a (2 * k + 2) := rfl
 rw [e]
 have sQ : (qg (aJ f a 2 (aH (aM f (2 * k + 2)))) a (2 * k + 2)).k = k := by
  show (2 * k + 2 - 2) / 2 = k
  omega
 refine ⟨kv dc oI, l1, ?_, ?_, ?_, .inl ?_, ?_, ?_, ?_, hw, hp, Nat.le_refl _, by show 0 ≤ 1; omega, ⟨Int.le_refl _, by show (0 : Int) ≤ 1073741824; omega⟩, Nat.zero_le _, Nat.le_refl _, fun e he => ?_, fun d hd => ?_, by show 0 < 1024; omega⟩
 ·exact hs.kp.f
 ·exact hs.kp.b
 ·show Lg (aJ f a 2 (aH (aM f (2 * k + 2)))).aw (aJ f a 2 (aH (aM f (2 * k + 2)))).saved
  rw [l1]
  exact l2
 ·exact hs.re.1
 ·rw [sQ]; rfl
 ·rw [sQ]; exact k1
 ·rw [sQ]; exact k8
 ·cases he
 cases hd
section
variable {w0 w w' : World} {L : Lc} {f : Fl}
def AS (w0 w : World) (L : Lc) (f : Fl) (b : Bk) (e : Ending) (w' : World) : Prop :=
 ∃ S K, e = .returned (.tuple #[.pointer (some ⟨K.D, 0, none⟩), .nilIface]) ∧ bo w0 w' { L with E := fun g => L.E g ∨ g = K.D } S K f b ∧ bW w w' ∧ w.heap.size ≤ S.D ∧ w.heap.size ≤ S.G ∧ w.heap.size ≤ K.D ∧ K.v = .slice none 0 0
theorem bo.opened {S : Sc} (h : bL w0 w L S f s) (a aa : Nat) (W : World) (hW : w.alloc (.cells #[.pointer (some ⟨L.d, 0, none⟩), .int .i64 a, .int .i64 aa, .pointer (some ⟨S.D, 0, none⟩), .bool false, .int .i64 2, .bool false, .int .i64 0, .int .i64 0, .int .i64 0, .int .i64 0, .slice none 0 0, .int .i64 0, .slice none 0 0, .bool false] 118) = W) :
 bo w0 W { L with E := fun g => L.E g ∨ g = w.heap.size } S ⟨w.heap.size, .slice none 0 0, none, 0, 0⟩ f (qg s a aa) := by
 subst hW
 have hb : Below w.heap.size w (w.alloc (.cells #[.pointer (some ⟨L.d, 0, none⟩), .int .i64 a, .int .i64 aa, .pointer (some ⟨S.D, 0, none⟩), .bool false, .int .i64 2, .bool false, .int .i64 0, .int .i64 0, .int .i64 0, .int .i64 0, .slice none 0 0, .int .i64 0, .slice none 0 0, .bool false] 118)) := bV.alloc cV _
 refine ⟨h.tag hb (fun g => L.E g ∨ g = w.heap.size) (fun g hg => ?_) (fun g hg h2 => ?_), h.fl.below.size, fun h5 => ?_, .inr rfl, ?_, fun j => m8 (nS w _ _), QS.nil _ _ _, (fun g hg => by cases hg), ⟨rfl, rfl, rfl⟩⟩
 ·rw [World.size_alloc]
  rcases hg with hg | hg
  ·have := h.fl.eb g hg; omega
  omega
 ·rcases h2 with h2 | h2
  ·exact h2
  omega
 ·have := h.cY _ (.inl h5)
  exact Nat.lt_irrefl _ this
 intro j u hu
 exact bO w _ _ j u _ rfl (by rw [← Array.getElem?_toList]; exact hu)
theorem Gk (h : bB w0 w L f) (first aa : Int) (hE : eC f first aa = 0) (Iw : cn L.E w L.Ap (ag .u8 f.az)) :
 Calls prog 17 #[.pointer (some ⟨L.d, 0, none⟩), .int .i64 first, .int .i64 aa] w fun e w' => if dU f first aa = 0 then AS w0 w L f (dh f first aa) e w' else e = .returned (.tuple #[.pointer none, fx (dU f first aa)]) ∧ bW w w' := by
 have g1 := ne_nil
 have gX := iD (oO h.ok hE)
 obtain ⟨-, a, k, DC, cB, k1, k8, hw, -⟩ := ml hE
 have kC : f.ar.length ≤ 64 := h.ok.b2
 have HC := iD (wA h first aa (by unfold dI; omega) (by unfold dI; omega))
 rw [hE, bG] at HC
 have px := iD (oP h k k8 aa cB)
 have hsz := ef h.ok k8
 have DK := iD (mj hE (aM f (2 * k + 2)))
 have DA : dh f first aa = qg (aJ f a 2 (aH (aM f (2 * k + 2)))) a (2 * k + 2) := by
  rw [DC, cB]; rfl
 have Be : dU f first aa = if (aJ f a 2 (aH (aM f (2 * k + 2)))).saved[4 + 3 * ((aJ f a 2 (aH (aM f (2 * k + 2)))).saved[0]?.getD 0).toNat]?.getD 0 = 0 then 12 else 0 := by
  unfold dU
  rw [iN (by rw [hE]; decide), DC, cB]
  rfl
 rw [DA] at gX ⊢
 rw [Be]
 obtain ⟨N, hN⟩ := ex (aM f (2 * k + 2))
 rw [hN] at px hsz DK gX ⊢
 obtain ⟨s, hs⟩ := ex (aJ f a 2 (aH N))
 have HS := iD hs
 rw [hs] at gX ⊢
 have lR : s.aw.length = 9 := by rw [← hs, (Ca (ic N)).1]; rfl
 obtain ⟨va, vt, vk, v0, l0, c0, v1, l1, c1, hv, b1, b2, b3, -⟩ := gX.vec
 have fL : s.saved = _ := hv
 have X2 := iD (iB (n := N) oM)
 have HP := iD Iw
 have HF := iD h
 have vR : 2 * k + 2 ≤ 18 := oM
 have ace : a ≤ 64 := oM
 obtain ⟨K, hK⟩ := ex (2 * k + 2)
 rw [hK] at gX cB vR ⊢
 subst cB
 rw [DC] at DK HC ⊢
 have EB : s.saved[0]?.getD 0 = (va : Int) := by rw [fL]; rfl
 rw [EB, Int.toNat_natCast]
 have xZ : Hid (aV (qg s a K) 0 = (va : Int)) := EB
 obtain ⟨z, hz⟩ := ex (s.saved[4 + 3 * va]?.getD 0)
 have l4 : Hid (aV (qg s a K) (4 + 3 * va) = z) := hz
 rw [hz]
 have nr : Hid ((qg s a K).st.aw.length = 9) := lR
 have VF : va ≤ 1 := b1
 clear h hE Iw DA Be hs hv fL hN hz EB DC k1 k8 hK hw kC lR
 go_enter func17, ntmps17
 go_wp2_with (fail)
 refine HC.mono ?_
 rintro e w1 ⟨rfl, rfl⟩
 go_wp2_with (fail)
 refine px.mono ?_
 rintro e w1 ⟨rfl, rfl⟩
 go_wp2_with (fail)
 refine (yV N oM _).mono ?_
 rintro e w2 ⟨As, cs, rfl, gF, je, uv, hB⟩
 have uD := iD (yG (HF.ab hB) (a : Int) 2 a 2 rfl rfl As 9 cs (aH N) uv rfl gF je X2 DK (HP.below hB))
 rw [HS] at uD
 have gh := iD hB
 clear gF je uv hB
 go_wp2_with (fail)
 refine uD.mono ?_
 rintro e w3 ⟨S, rfl, hS, hB, hD, hG⟩
 have jI : Hid (bW w w3) := gh.trans (hB.mono gh.size)
 have eX := iD hS
 have Yo : Hid (w.heap.size ≤ S.D ∧ w.heap.size ≤ S.G) := ⟨Nat.le_trans gh.size hD, Nat.le_trans gh.size hG⟩
 clear hS hB hD hG
 go_wp2_with (fail)
 obtain ⟨W, hW⟩ := ex (w3.alloc (.cells #[.pointer (some ⟨L.d, 0, none⟩), .int .i64 a, .int .i64 K, .pointer (some ⟨S.D, 0, none⟩), .bool false, .int .i64 2, .bool false, .int .i64 0, .int .i64 0, .int .i64 0, .int .i64 0, .slice none 0 0, .int .i64 0, .slice none 0 0, .bool false] 118))
 have pD := iD (bo.opened eX a K W hW)
 have xG : Hid (bW w W) := by rw [← hW]; exact jI.alloc jI.size _
 rw [hW]
 clear hW
 refine (cF pD gX.ok 0 0 rfl (by rw [nr]; omega)).mono ?_
 rintro e w5 ⟨rfl, hB⟩
 rw [xZ]
 have Yu := iD (pD.ab hB)
 have RC : Hid (bW w w5) := xG.trans (hB.mono xG.size)
 clear hB
 go_wp2_with (fail)
 refine (cF Yu gX.ok (4 + 3 * (va : Int)) (4 + 3 * va) (by push_cast; rfl) (by rw [nr]; omega)).mono ?_
 rintro e w6 ⟨rfl, hB⟩
 rw [l4]
 have abA := iD (Yu.ab hB)
 have RB : Hid (bW w w6) := RC.trans (hB.mono RC.size)
 clear hB
 by_cases hz : z = 0
 ·subst hz
  go_wp2
  go_ret2
  exact ⟨rfl, RB⟩
 have HZ := iD hz
 have Qq : (z == 0) = false := by simpa using hz
 go_wp2
 go_ret2
 exact ⟨S, ⟨w3.heap.size, .slice none 0 0, none, 0, 0⟩, rfl, abA, RB, Yo.1, Yo.2, jI.size, rfl⟩
end
structure Rb where
 q : Qv
 E : Option Addr
 ne : Nat
 ce : Nat
 P : Option Addr
 np : Nat
 cp : Nat
abbrev Rb.l (r : Rb) (b : Bk) : List Value := [.int .i64 b.first, .int .i64 b.aa, .int .i64 b.st.first, .int .i64 b.st.aa, .slice r.q.Q1 b.st.aw.length r.q.c1, .slice r.q.Q2 b.st.aj.length r.q.c2, .slice r.q.Q3 b.st.saved.length r.q.c3, .int .i64 b.st.seq, .int .i64 b.st.block, .int .i64 b.st.slot, .slice r.q.Q4 r.q.n4 r.q.c4, .slice r.q.Q5 r.q.n5 r.q.c5, .int .i64 r.q.pg, .int .i64 r.q.er, .int .i64 r.q.nb, .int .i64 r.q.ns, .bool b.st.af,
 .int .i64 b.slot, .bool b.af, .bool b.au, .int .i64 b.dst, .int .i64 b.version, .int .i64 b.length, .int .i64 b.cH, .slice r.E r.ne r.ce, .slice r.P r.np r.cp]
abbrev Rb.v (r : Rb) (b : Bk) : Value := .agg #[.int .i64 b.first, .int .i64 b.aa, .int .i64 b.st.first, .int .i64 b.st.aa, .slice r.q.Q1 b.st.aw.length r.q.c1, .slice r.q.Q2 b.st.aj.length r.q.c2, .slice r.q.Q3 b.st.saved.length r.q.c3, .int .i64 b.st.seq, .int .i64 b.st.block, .int .i64 b.st.slot, .slice r.q.Q4 r.q.n4 r.q.c4, .slice r.q.Q5 r.q.n5 r.q.c5, .int .i64 r.q.pg, .int .i64 r.q.er, .int .i64 r.q.nb, .int .i64 r.q.ns, .bool b.st.af,
 .int .i64 b.slot, .bool b.af, .bool b.au, .int .i64 b.dst, .int .i64 b.version, .int .i64 b.length, .int .i64 b.cH, .slice r.E r.ne r.ce, .slice r.P r.np r.cp]
def eF : Array Value := #[.int .i64 0, .int .i64 0, .int .i64 0, .int .i64 0, .slice none 0 0, .slice none 0 0, .slice none 0 0, .int .i64 0, .int .i64 0, .int .i64 0, .slice none 0 0, .slice none 0 0, .int .i64 0, .int .i64 0, .int .i64 0, .int .i64 0, .bool false, .int .i64 0, .bool false, .bool false, .int .i64 0, .int .i64 0, .int .i64 0, .int .i64 0, .slice none 0 0, .slice none 0 0]
theorem sy : (prog.info? 45).map (·.size) = some 26 := by kernel_rfl
structure Ob (w wr : World) (a b c d e f : Value) : Prop where
 below : bW w wr
 iM : iM wr w.heap.size a b c d e f
 h6 : ∃ dZ : Array Value, dZ.size = 26 ∧ wr.heap[w.heap.size + 1]? = some (.cells dZ 45 (0, 0))
theorem Ob.ab {wr : World} {a b f : Value} (h : Ob w wr a b c d e f) (hb : bW wr w') : Ob w w' a b c d e f := by
 obtain ⟨dZ, h1, h2⟩ := h.h6
 exact ⟨h.below.trans (hb.mono h.below.size), h.iM.below hb h.iM.lt, dZ, h1, (hb.block _ (Array.getElem?_eq_some_iff.1 h2).1).trans h2⟩
theorem Ob.new {a b f : Value} {l : Array Value} (hl : l.size = 26) (h : (w.alloc (.cells #[a, b, c, d, e, f] 35)).alloc (.cells l 45) = W) : Ob w W a b c d e f := by
 subst h
 have hs : (w.alloc (.cells #[a, b, c, d, e, f] 35)).heap.size = w.heap.size + 1 := Array.size_push _
 refine ⟨ck _ _ _, (qM w a b c d e f 35 _ rfl).below (bV.alloc cV _) (by rw [hs]; omega), l, hl, ?_⟩
 rw [← hs]
 exact heap_alloc_new _ _
theorem F9 (h : ca X w x g) (hX : ∀ b, X b → b < w.heap.size) (hE : eC g first aa = 0) {a : Nat} (DC : first = a) (hN : N ≤ 1000000) (A : Option Addr) (c : Nat) (hA : Rd w w.heap.size A (bK (aH N))) (hc : 9 ≤ c) (fQ : c ≤ maxLen) :
 Calls prog 30 #[x.v g, .int .i64 first, .int .i64 2, .slice A 9 c] w fun e w' => ∃ q : Qv, e = .returned (.tuple #[q.v (aJ g a 2 (aH N)), .int .i64 0]) ∧ bW w w' ∧ iE X w' q (aJ g a 2 (aH N)) g.pg := by
 have ho := mj hE N
 obtain ⟨hd, a', k, acf, cB, k1, k8, hw, hp⟩ := ml hE
 have haa : a' = a := oM
 subst haa
 subst DC
 refine (KR h hX a' 2 A 9 c (aH N) hA rfl hc fQ (iB hN) hd oM oM oM oM oM (ic N) (by simp only [aH, List.length_cons, List.length_nil, cN]; omega)).mono ?_
 rintro e w' ⟨v, rfl, hb, h1, h2⟩
 have hs := kl (iB hN) ho
 obtain ⟨q, Dv, A0⟩ := (h1 ho).rv (p := g.pg) hs.re.1 hs.re.2.2.2.2.2.2.2
 exact ⟨q, by rw [Dv, ho], hb, A0⟩
def RFO (X : Nat → Prop) (w : World) (g : Fl) (first aa : Int) (e : Ending) (w' : World) : Prop :=
 ∃ v, e = .returned (.tuple #[v, .int .i64 (dU g first aa)]) ∧ bW w w' ∧ (dU g first aa ≠ 0 → v = .agg eF) ∧ (dU g first aa = 0 → ∃ r : Rb, v = r.v (dh g first aa) ∧ r.ne = 0 ∧ r.E = none ∧ r.np = 0 ∧ r.ce = 0 ∧ r.P = none ∧ r.cp = 0 ∧ iE X w' r.q (dh g first aa).st g.pg)
theorem zI : (eF.all (·.oneCell')) = true := by unfold eF; simp [Value.oneCell']
theorem jr {ops : Array Oper} {rest : List Oper} {o : Oper} {a : Act} {Q : Exit → Act → World → Prop} (hg : o.guard = none) (t : TypeId) (parts : Array (Nat × Operand)) (ho : o.op = .build t parts) 
 (vs : List (Nat × Value)) (hv : (parts.map fun (i, x) => (i, a.eval x)).toList = vs) (cs : Array Value) (hb : P.built t vs = some cs)
 (h : wpList P ops Q rest (a.put o.dst (.agg cs)) w) : wpList P ops Q (o :: rest) a w := by
 refine wpList_build hg t parts ho (by rw [hv, hb]; rfl) ?_
 rw [hv, hb]
 exact h
theorem GP : prog.built 45 [] = some eF := by kernel_rfl
theorem Ec (h : ca X w x g) (first aa : Int) (Cx : dI first) (dC : dI aa) (hE : eC g first aa ≠ 0) :
 Calls prog 12 #[x.v g, .int .i64 first, .int .i64 aa] w (RFO X w g first aa) := by
 have HR := iD (fun w2 => sB h first aa Cx dC w2)
 have HE : Hid (dU g first aa = eC g first aa) := by unfold dU; rw [Hid, iP hE]
 have tn := iD hE
 obtain ⟨k, hk⟩ := ex (eC g first aa)
 have HK := iD hk
 rw [hk] at HR hE
 have Bb : (k == 0) = false := by simpa using hE
 obtain ⟨A, c, B, d, P, r⟩ := x
 obtain ⟨n1, e1⟩ := ex g.img.length
 obtain ⟨n2, e2⟩ := ex g.ar.length
 obtain ⟨n3, e3⟩ := ex g.az.length
 simp only [Rc.v] at HR ⊢
 rw [e1, e2, e3] at HR ⊢
 obtain ⟨W, hW⟩ := ex ((w.alloc (.cells #[.slice A n1 c, .int .i64 g.pg, .slice B n2 d, .bool g.aF, .int .i64 g.be, .slice P n3 r] 35)).alloc (.cells eF 45))
 have HO := iD (Ob.new rfl hW)
 obtain ⟨d0, d1, d2, d3, d4, d5, -⟩ := HO.iM
 unfold eF at hW
 clear h hk hE e1 e2 e3
 go_enter func12, ntmps12
 go_wp2_with (fail)
 try rw [hW]
 clear hW
 refine (HR W).mono ?_
 rintro e w1 ⟨rfl, hb⟩
 have iL := iD (HO.ab hb)
 clear hb d0 d1 d2 d3 d4 d5
 obtain ⟨dZ, lW, kV⟩ := iL.h6
 go_upto_region 3 with (fail)
 refine wp_region_list ?_
 refine jr rfl 45 #[] rfl [] (by simp) eF GP ?_
 refine mG (v := .int .i64 k) rfl (by rfl) ?_
 refine wpList_store_row rfl 45 _ _ rfl (w.heap.size + 1) eF rfl rfl 45 dZ kV sy (lW.trans rfl) zI ?_
 go_wp2
 (try simp only [Exit.inBlock, Exit.then])
 refine bodyPost_ret (v := .tuple #[.agg eF, .int .i64 k]) (cM (p := 6) (u := 7) rfl _ _ (w.heap.size + 1) 45 eF (0, 0) _ rfl (setRow_heap _ _ _ _ _ _ kV) underlying45 rfl sy) rfl ⟨.agg eF, by rw [HE, HK], below_setRow iL.below (Nat.le_succ _) _, fun _ => rfl, fun e => absurd (HE.out.symm.trans e) tn⟩
theorem OY (h : w.heap[B]? = some (.cells qB 43 (0, 0))) : w.cell? ⟨B, 0, none⟩ = some (.int .i64 0) ∧ w.cell? ⟨B, 1, none⟩ = some (.int .i64 0) ∧ w.cell? ⟨B, 2, none⟩ = some (.slice none 0 0) ∧ w.cell? ⟨B, 3, none⟩ = some (.slice none 0 0) ∧ w.cell? ⟨B, 4, none⟩ = some (.slice none 0 0) ∧ w.cell? ⟨B, 5, none⟩ = some (.int .i64 0) ∧ w.cell? ⟨B, 6, none⟩ = some (.int .i64 0) ∧ w.cell? ⟨B, 7, none⟩ = some (.int .i64 0) ∧ w.cell? ⟨B, 8, none⟩ = some (.slice none 0 0) ∧ w.cell? ⟨B, 9, none⟩ = some (.slice none 0 0) ∧ w.cell? ⟨B, 10, none⟩ = some (.int .i64 0) ∧ w.cell? ⟨B, 11, none⟩ = some (.int .i64 0) ∧ w.cell? ⟨B, 12, none⟩ = some (.int .i64 0) ∧ w.cell? ⟨B, 13, none⟩ = some (.int .i64 0) ∧ w.cell? ⟨B, 14, none⟩ = some (.bool false) ∧ ∀ j, w.frozen? ⟨B, j, none⟩ = false := by
 refine ⟨?_, ?_, ?_, ?_, ?_, ?_, ?_, ?_, ?_, ?_, ?_, ?_, ?_, ?_, ?_, fun j => frozen_of_row w B j _ 43 h⟩
 all_goals (rw [cell_of_row w B _ _ 43 (0, 0) h]; rfl)
theorem jC (h : Below N w0 w) (hB : N ≤ B) (v0 v1 v2 v3 v4 v5 v6 v7 v8 v9 v10 v11 tz Bw Bv : Value) : Below N w0 (((((((((((((((w.setCell ⟨B, 0, none⟩ v0).setCell ⟨B, 1, none⟩ v1).setCell ⟨B, 2, none⟩ v2).setCell ⟨B, 3, none⟩ v3).setCell ⟨B, 4, none⟩ v4).setCell ⟨B, 5, none⟩ v5).setCell ⟨B, 6, none⟩ v6).setCell ⟨B, 7, none⟩ v7).setCell ⟨B, 8, none⟩ v8).setCell ⟨B, 9, none⟩ v9).setCell ⟨B, 10, none⟩ v10).setCell ⟨B, 11, none⟩ v11).setCell ⟨B, 12, none⟩ tz).setCell ⟨B, 13, none⟩ Bw).setCell ⟨B, 14, none⟩ Bv) :=
 (((((((((((((((h.setCell (p := ⟨B, 0, none⟩) hB v0).setCell (p := ⟨B, 1, none⟩) hB v1).setCell (p := ⟨B, 2, none⟩) hB v2).setCell (p := ⟨B, 3, none⟩) hB v3).setCell (p := ⟨B, 4, none⟩) hB v4).setCell (p := ⟨B, 5, none⟩) hB v5).setCell (p := ⟨B, 6, none⟩) hB v6).setCell (p := ⟨B, 7, none⟩) hB v7).setCell (p := ⟨B, 8, none⟩) hB v8).setCell (p := ⟨B, 9, none⟩) hB v9).setCell (p := ⟨B, 10, none⟩) hB v10).setCell (p := ⟨B, 11, none⟩) hB v11).setCell (p := ⟨B, 12, none⟩) hB tz).setCell (p := ⟨B, 13, none⟩) hB Bw).setCell (p := ⟨B, 14, none⟩) hB Bv)
def pJ (w : World) (B : Nat) (v0 v1 v2 v3 v4 v5 v6 v7 v8 v9 v10 v11 tz Bw Bv : Value) : World := (((((((((((((((w.setCell ⟨B, 0, none⟩ v0).setCell ⟨B, 1, none⟩ v1).setCell ⟨B, 2, none⟩ v2).setCell ⟨B, 3, none⟩ v3).setCell ⟨B, 4, none⟩ v4).setCell ⟨B, 5, none⟩ v5).setCell ⟨B, 6, none⟩ v6).setCell ⟨B, 7, none⟩ v7).setCell ⟨B, 8, none⟩ v8).setCell ⟨B, 9, none⟩ v9).setCell ⟨B, 10, none⟩ v10).setCell ⟨B, 11, none⟩ v11).setCell ⟨B, 12, none⟩ tz).setCell ⟨B, 13, none⟩ Bw).setCell ⟨B, 14, none⟩ Bv)
theorem sD {u0 u1 u2 u3 u4 u5 u6 u7 u8 u9 JL JK JJ JI FX : Value} (h : w.heap[B]? = some (.cells #[u0, u1, u2, u3, u4, u5, u6, u7, u8, u9, JL, JK, JJ, JI, FX] 43 (0, 0))) (v0 v1 v2 v3 v4 v5 v6 v7 v8 v9 v10 v11 tz Bw Bv : Value) : (pJ w B v0 v1 v2 v3 v4 v5 v6 v7 v8 v9 v10 v11 tz Bw Bv).heap[B]? = some (.cells #[v0, v1, v2, v3, v4, v5, v6, v7, v8, v9, v10, v11, tz, Bw, Bv] 43 (0, 0)) := by
 unfold pJ
 have h := heap_setCell_same _ _ 14 _ 43 Bv (heap_setCell_same _ _ 13 _ 43 Bw (heap_setCell_same _ _ 12 _ 43 tz (heap_setCell_same _ _ 11 _ 43 v11 (heap_setCell_same _ _ 10 _ 43 v10 (heap_setCell_same _ _ 9 _ 43 v9 (heap_setCell_same _ _ 8 _ 43 v8 (heap_setCell_same _ _ 7 _ 43 v7 (heap_setCell_same _ _ 6 _ 43 v6 (heap_setCell_same _ _ 5 _ 43 v5 (heap_setCell_same _ _ 4 _ 43 v4 (heap_setCell_same _ _ 3 _ 43 v3 (heap_setCell_same _ _ 2 _ 43 v2 (heap_setCell_same _ _ 1 _ 43 v1 (heap_setCell_same _ _ 0 _ 43 v0 h))))))))))))))
 simp only [List.setIfInBounds_toArray, List.set_cons_zero, List.set_cons_succ] at h
 exact h
theorem ah.push (h : ah (fun b => b = B) w w') (j : Nat) (v : Value) : ah (fun b => b = B) w (w'.setCell ⟨B, j, none⟩ v) :=
 h.trans (ah.set (X := fun b => b = B) w' ⟨B, j, none⟩ v (show B = B from rfl))
theorem pY (w : World) (B : Nat) (v0 v1 v2 v3 v4 v5 v6 v7 v8 v9 v10 v11 tz Bw Bv : Value) : ah (fun b => b = B) w (pJ w B v0 v1 v2 v3 v4 v5 v6 v7 v8 v9 v10 v11 tz Bw Bv) :=
 (((((((((((((((ah.refl (fun b => b = B) w).push 0 v0).push 1 v1).push 2 v2).push 3 v3).push 4 v4).push 5 v5).push 6 v6).push 7 v7).push 8 v8).push 9 v9).push 10 v10).push 11 v11).push 12 tz).push 13 Bw).push 14 Bv
theorem nI (h : Below N w0 w) (hB : N ≤ B) (v0 v1 v2 v3 v4 v5 v6 v7 v8 v9 v10 v11 tz Bw Bv : Value) : Below N w0 (pJ w B v0 v1 v2 v3 v4 v5 v6 v7 v8 v9 v10 v11 tz Bw Bv) := jC h hB v0 v1 v2 v3 v4 v5 v6 v7 v8 v9 v10 v11 tz Bw Bv
def XW (X : Nat → Prop) (N M b : Nat) : Prop := X b ∨ (N ≤ b ∧ b < M)
theorem ca.wide (h : ca X w x g) (hb : bW w W) : ca (XW X w.heap.size W.heap.size) W x g := by
 have hY : ∀ b, b < w.heap.size → XW X w.heap.size W.heap.size b → X b := fun b aY hx => hx.elim id (fun e => oM)
 have h1 : ca (XW X w.heap.size W.heap.size) w x g := ⟨h.ok, h.a.dS hY, h.a1, h.a2, h.b.dS hY, h.b1, h.b2, h.p.dS hY, h.p1, h.p2⟩
 exact h1.below hb
theorem Mn (a b c : Int) (v0 v1 v2 v3 v4 v5 v6 v7 v8 v9 v10 v11 tz Bw Bv : Value) : prog.built 45 [(0, .int .i64 a), (1, .int .i64 b), (2, .agg #[v0, v1, v2, v3, v4, v5, v6, v7, v8, v9, v10, v11, tz, Bw, Bv]), (3, .int .i64 c)] = some #[.int .i64 a, .int .i64 b, v0, v1, v2, v3, v4, v5, v6, v7, v8, v9, v10, v11, tz, Bw, Bv, .int .i64 c, .bool false, .bool false, .int .i64 0, .int .i64 0, .int .i64 0, .int .i64 0, .slice none 0 0, .slice none 0 0] := by kernel_rfl
theorem Vv (a0 a1 : Int) (b0 b1 : Int) (Q1 Q2 Q3 Q4 Q5 : Option Addr) (n1 c1 n2 c2 n3 c3 n4 c4 n5 c5 : Nat) (i1 i2 i3 i4 i5 i6 i7 : Int) (t1 : Bool) (r : Int) (t2 t3 : Bool) (j1 j2 j3 j4 : Int) (E P : Option Addr) (ne ce np cp : Nat) :
 (#[Value.int .i64 a0, .int .i64 a1, .int .i64 b0, .int .i64 b1, .slice Q1 n1 c1, .slice Q2 n2 c2, .slice Q3 n3 c3, .int .i64 i1, .int .i64 i2, .int .i64 i3, .slice Q4 n4 c4, .slice Q5 n5 c5, .int .i64 i4, .int .i64 i5, .int .i64 i6, .int .i64 i7, .bool t1, .int .i64 r, .bool t2, .bool t3, .int .i64 j1, .int .i64 j2, .int .i64 j3, .int .i64 j4, .slice E ne ce, .slice P np cp].all (·.oneCell')) = true := by
 simp [Value.oneCell']
theorem Kd {G : Prop} (h : w.heap[B]? = some (.cells qB 43 (0, 0))) (k : w.cell? ⟨B, 0, none⟩ = some (.int .i64 0) → w.cell? ⟨B, 1, none⟩ = some (.int .i64 0) → w.cell? ⟨B, 2, none⟩ = some (.slice none 0 0) → w.cell? ⟨B, 3, none⟩ = some (.slice none 0 0) → w.cell? ⟨B, 4, none⟩ = some (.slice none 0 0) → w.cell? ⟨B, 5, none⟩ = some (.int .i64 0) → w.cell? ⟨B, 6, none⟩ = some (.int .i64 0) → w.cell? ⟨B, 7, none⟩ = some (.int .i64 0) → w.cell? ⟨B, 8, none⟩ = some (.slice none 0 0) → w.cell? ⟨B, 9, none⟩ = some (.slice none 0 0) → w.cell? ⟨B, 10, none⟩ = some (.int .i64 0) → w.cell? ⟨B, 11, none⟩ = some (.int .i64 0) → w.cell? ⟨B, 12, none⟩ = some (.int .i64 0) → w.cell? ⟨B, 13, none⟩ = some (.int .i64 0) → w.cell? ⟨B, 14, none⟩ = some (.bool false) → (∀ j, w.frozen? ⟨B, j, none⟩ = false) → G) : G := by
 obtain ⟨y0, y1, y2, y3, y4, y5, y6, y7, y8, y9, Qc, Uh, Bt, Ug, Uf, yf⟩ := OY h
 exact k y0 y1 y2 y3 y4 y5 y6 y7 y8 y9 Qc Uh Bt Ug Uf yf
theorem carry {p G : Prop} (h : p) (k : p → G) : G := k h
theorem sC (h : Below (w.alloc o).heap.size (w.alloc o) w') : w'.heap[w.heap.size]? = some o := (h.block _ (by simp)).trans (heap_alloc_new w o)
theorem vy (h : Below (w.alloc o).drew.heap.size (w.alloc o).drew w') : w'.heap[w.heap.size]? = some o := (h.block _ (by simp)).trans (heap_alloc_new w o)
theorem zu (h : bW w w') (hr : w.heap[B]? = some o) : w'.heap[B]? = some o := (h.block _ (Array.getElem?_eq_some_iff.1 hr).1).trans hr
theorem Ed (h : ca X w x g) (hX : ∀ b, X b → b < w.heap.size) (first aa : Int) (hE : eC g first aa = 0) :
 Calls prog 12 #[x.v g, .int .i64 first, .int .i64 aa] w (RFO X w g first aa) := by
 have dc := h.ok
 have gX := iD (oO h.ok hE)
 obtain ⟨qo, a, k, DC, cB, k1, k8, hw, -⟩ := ml hE
 have kC : g.ar.length ≤ 64 := h.ok.b2
 have hsz := ef h.ok k8
 have DA : dh g first aa = qg (aJ g a 2 (aH (aM g (2 * k + 2)))) a (2 * k + 2) := by
  rw [DC, cB]; rfl
 have Be : dU g first aa = if (aJ g a 2 (aH (aM g (2 * k + 2)))).saved[4 + 3 * ((aJ g a 2 (aH (aM g (2 * k + 2)))).saved[0]?.getD 0).toNat]?.getD 0 = 0 then 12 else 0 := by
  unfold dU
  rw [iN (by rw [hE]; decide), DC, cB]
  rfl
 have HR := iD (fun w2 => sB h first aa (by unfold dI; omega) (by unfold dI; omega) w2)
 rw [hE] at HR
 have AI := iD (fun w2 => uM h k k8 aa cB w2)
 obtain ⟨N, hN⟩ := ex (aM g (2 * k + 2))
 rw [DA] at gX
 rw [hN] at AI hsz DA Be gX
 have FG := iD (fun (W : World) (hb : bW w W) (A' : Option Addr) (c' : Nat) hA h1 h2 => F9 (h.wide hb) (fun b dO => dO.elim (fun e => Nat.lt_of_lt_of_le (hX b e) hb.size) (fun e => e.2)) hE DC (N := N) oM A' c' hA h1 h2)
 obtain ⟨s, hs⟩ := ex (aJ g a 2 (aH N))
 rw [hs] at FG DA Be gX
 obtain ⟨va, vt, vk, v0, l0, c0, v1, l1, c1, hv, b1, b2, b3, -⟩ := gX.vec
 have fL : s.saved = _ := hv
 have EB : s.saved[0]?.getD 0 = (va : Int) := by rw [fL]; rfl
 have aac : s.saved.length = 9 := by rw [fL]; rfl
 rw [EB, Int.toNat_natCast] at Be
 have Yh := iD DA
 have Yi := iD Be
 have xX := iD fL
 obtain ⟨A, c, B, d, P, r⟩ := x
 obtain ⟨n1, e1⟩ := ex g.img.length
 obtain ⟨n2, e2⟩ := ex g.ar.length
 obtain ⟨n3, e3⟩ := ex g.az.length
 simp only [Rc.v] at HR AI FG ⊢
 rw [e1, e2, e3, qo] at HR AI FG ⊢
 obtain ⟨W, hW⟩ := ex ((w.alloc (.cells #[.slice A n1 c, .int .i64 g.pg, .slice B n2 d, .bool false, .int .i64 g.be, .slice P n3 r] 35)).alloc (.cells eF 45))
 have HO := iD (Ob.new rfl hW)
 obtain ⟨d0, d1, d2, d3, d4, d5, -⟩ := HO.iM
 unfold eF at hW
 have SO : 0 ≤ first ∧ first ≤ 64 := oM
 obtain ⟨acd, acb⟩ := SO
 have U6 := iD DC
 have uJ := iD cB
 clear h dc hE qo DC cB k1 k8 hw hN hs hv DA Be hX e1 e2 e3 fL
 go_enter func12, ntmps12
 go_wp2_with (fail)
 try rw [hW]
 clear hW
 refine (HR W).mono ?_
 rintro e w1 ⟨rfl, hb⟩
 have iL := iD (HO.ab hb)
 have H6 : Hid (∀ w9, bW w1 w9 → (w9.cell? ⟨w.heap.size, 0, none⟩ = some (.slice A n1 c) ∧ w9.cell? ⟨w.heap.size, 1, none⟩ = some (.int .i64 g.pg) ∧ w9.cell? ⟨w.heap.size, 2, none⟩ = some (.slice B n2 d) ∧ w9.cell? ⟨w.heap.size, 3, none⟩ = some (.bool false) ∧ w9.cell? ⟨w.heap.size, 4, none⟩ = some (.int .i64 g.be) ∧ w9.cell? ⟨w.heap.size, 5, none⟩ = some (.slice P n3 r))) := fun w9 hb => by
  obtain ⟨z0, z1, z2, z3, z4, z5, -⟩ := (iL.ab hb).iM
  exact ⟨z0, z1, z2, z3, z4, z5⟩
 have px : Hid (∀ W, bW w1 W → Calls prog 25 #[.agg #[.slice A n1 c, .int .i64 g.pg, .slice B n2 d, .bool false, .int .i64 g.be, .slice P n3 r], .int .i64 aa] W fun e w' => e = .returned (.int .i64 (N : Int)) ∧ bW w1 w' ∧ bW W w') := fun W hb => (AI W).mono (fun e w' ⟨he, dP⟩ => ⟨he, hb.trans (dP.mono hb.size), dP⟩)
 have xC : Hid (∀ W, bW w1 W → Calls prog 31 #[.int .i64 (N : Int)] W fun e w' => ∃ A c, e = .returned (.slice A 9 c) ∧ 9 ≤ c ∧ c ≤ maxLen ∧ Rd w' w'.heap.size A (bK (aH N)) ∧ bW w1 w' ∧ bW W w') := fun W hb => (F8 N oM W).mono (fun e w' ⟨A, c, he, h1, h2, h3, dP⟩ => ⟨A, c, he, h1, h2, h3, hb.trans (dP.mono hb.size), dP⟩)
 have uD : Hid (∀ w3, bW w1 w3 → ∀ W, bW w3 W → ∀ A' c', Rd w3 w3.heap.size A' (bK (aH N)) → 9 ≤ c' → c' ≤ maxLen → Calls prog 30 #[.agg #[.slice A n1 c, .int .i64 g.pg, .slice B n2 d, .bool false, .int .i64 g.be, .slice P n3 r], .int .i64 first, .int .i64 2, .slice A' 9 c'] W fun e w' => ∃ q : Qv, e = .returned (.tuple #[q.v s, .int .i64 0]) ∧ bW w1 w' ∧ iE (XW X w.heap.size W.heap.size) w' q s g.pg ∧ bW W w') := fun w3 gV W hbx A' c' h1 h2 h3 =>
  have hb := gV.trans (hbx.mono gV.size)
  (FG W (iL.below.trans (hb.mono iL.below.size)) A' c' ((h1.below hbx cV).more hbx.size) h2 h3).mono (fun e w' ⟨q, he, dP, h4⟩ => ⟨q, he, hb.trans (dP.mono hb.size), h4, dP⟩)
 clear hb d0 d1 d2 d3 d4 d5
 have abW : w.heap.size + 1 < w1.heap.size := by
  obtain ⟨dZ, _, h2⟩ := iL.h6
  exact (Array.getElem?_eq_some_iff.1 h2).1
 have kb : bW w1 w1.drew := Below.drew bV
 have k2 := H6 w1.drew kb
 have ksz : w1.drew.heap.size = w1.heap.size := rfl
 obtain ⟨d0, d1, d2, d3, d4, d5⟩ := H6 w1 bV
 go_wp2_with (fail)
 go_region_held3 (fun w9 => w9.cell? ⟨w.heap.size, 0, none⟩ = some (.slice A n1 c) ∧ w9.cell? ⟨w.heap.size, 1, none⟩ = some (.int .i64 g.pg) ∧ w9.cell? ⟨w.heap.size, 2, none⟩ = some (.slice B n2 d) ∧ w9.cell? ⟨w.heap.size, 3, none⟩ = some (.bool false) ∧ w9.cell? ⟨w.heap.size, 4, none⟩ = some (.int .i64 g.be) ∧ w9.cell? ⟨w.heap.size, 5, none⟩ = some (.slice P n3 r)) (first | with_reducible exact H6.out _ dP | with_reducible exact H6.out _ gV | with_reducible exact H6.out _ iI | with_reducible exact k2 | with_reducible exact H6.out _ (iI.alloc iI.size _) | with_reducible exact H6.out _ (gV.alloc gV.size _) | with_reducible exact H6.out _ (dP.alloc dP.size _) | with_reducible exact H6.out _ (jC iI gV.size _ _ _ _ _ _ _ _ _ _ _ _ _ _ _) | with_reducible exact H6.out _ (jC iI dP.size _ _ _ _ _ _ _ _ _ _ _ _ _ _ _) | with_reducible exact H6.out _ (jC iI cV _ _ _ _ _ _ _ _ _ _ _ _ _ _ _) | with_reducible exact H6.out _ (jC (iI.alloc iI.size _) iI.size _ _ _ _ _ _ _ _ _ _ _ _ _ _ _) | with_reducible exact H6.out _ (Below.drew (bV.alloc cV _)) | (fail)) (first
  | (go_at_call 25; with_reducible refine (px.out _ (by first | with_reducible exact kb | with_reducible exact Below.drew (bV.alloc cV _))).mono ?_; rintro e w2 ⟨rfl, dP, yO⟩; (first | (with_reducible refine carry (vy yO) ?_; intro nQ) | skip))
  | (go_at_call 31; with_reducible refine (xC.out _ (by first | exact dP | exact dP.alloc dP.size _)).mono ?_; rintro e w3 ⟨A3, c3, rfl, mv, rU, EE, gV, Uu⟩; (first | (with_reducible refine carry (sC Uu) ?_; intro Ox) | (with_reducible refine carry (zu Uu nQ) ?_; intro Ox) | skip))
  | (go_at_call 30; with_reducible refine (uD.out w3 gV _ (by first | exact Below.refl _ _ | exact bV.alloc cV _) A3 c3 EE mv rU).mono ?_; rintro e w4 ⟨q, rfl, iI, hq, Ut⟩; (first | (with_reducible refine Kd (sC Ut) ?_; intro y0 y1 y2 y3 y4 y5 y6 y7 y8 y9 Qc Uh Bt Ug Uf yf) | (with_reducible refine Kd (zu Ut Ox) ?_; intro y0 y1 y2 y3 y4 y5 y6 y7 y8 y9 Qc Uh Bt Ug Uf yf) | skip))
  )
 focus
  obtain ⟨WZ, rj⟩ := ex (w4.alloc (.cells (UR q s (.slice q.Q1 s.aw.length q.c1) (.slice q.Q2 s.aj.length q.c2) (.slice q.Q3 9 q.c3) s.af) 43))
  obtain ⟨B5, po⟩ := ex w4.heap.size
  have Dg : Hid (WZ.heap[B5]? = some (.cells (UR q s (.slice q.Q1 s.aw.length q.c1) (.slice q.Q2 s.aj.length q.c2) (.slice q.Q3 9 q.c3) s.af) 43 (0, 0))) := by rw [Hid, ← rj, ← po]; exact heap_alloc_new _ _
  have kY : Hid (bW w1 WZ) := by rw [← rj]; exact iI.alloc iI.size _
  have UU : Hid (iE (fun b => X b ∨ b = w.heap.size + 1) WZ q s g.pg) := by rw [← rj]; exact (hq.cU (fun b hb => hb.elim .inl (fun e => .inr ⟨oM, by have := gV.size; omega⟩))).below (bV.alloc cV _)
  rw [rj, po]
  clear rj po
 rotate_left
 focus
  have tS := sC Ut
  have Cr : w1.heap.size ≤ w3.heap.size := gV.size
  obtain ⟨WZ, rj⟩ := ex (pJ w4 w3.heap.size (.int .i64 s.first) (.int .i64 s.aa) (.slice q.Q1 s.aw.length q.c1) (.slice q.Q2 s.aj.length q.c2) (.slice q.Q3 9 q.c3) (.int .i64 s.seq) (.int .i64 s.block) (.int .i64 s.slot) (.slice q.Q4 q.n4 q.c4) (.slice q.Q5 q.n5 q.c5) (.int .i64 q.pg) (.int .i64 q.er) (.int .i64 q.nb) (.int .i64 q.ns) (.bool s.af))
  have Dg : Hid (WZ.heap[w3.heap.size]? = some (.cells (UR q s (.slice q.Q1 s.aw.length q.c1) (.slice q.Q2 s.aj.length q.c2) (.slice q.Q3 9 q.c3) s.af) 43 (0, 0))) := by rw [← rj]; exact sD tS ..
  have kY : Hid (bW w1 WZ) := by rw [← rj]; exact nI iI Cr ..
  have UU : Hid (iE (fun b => X b ∨ b = w.heap.size + 1) WZ q s g.pg) := by
   rw [← rj]
   refine (hq.ao ((pY ..).more (fun b hb => .inr ?_))).cU (fun b hb => hb.elim .inl (fun e => .inr ⟨oM, by rw [World.size_alloc]; have := gV.size; omega⟩))
   have h1 := iL.below.size
   subst hb
   refine ⟨oM, ?_⟩
   rw [World.size_alloc]; omega
  unfold pJ at rj
  obtain ⟨B5, po⟩ := ex w3.heap.size
  rw [po] at rj Dg ⊢
  rw [rj]
  clear rj po tS Cr y0 y1 y2 y3 y4 y5 y6 y7 y8 y9 Qc Uh Bt Ug Uf yf
 rotate_left
 focus
  have tS := zu Ut Ox
  have Cr : w1.heap.size ≤ w2.heap.size := dP.size
  obtain ⟨WZ, rj⟩ := ex (pJ w4 w2.heap.size (.int .i64 s.first) (.int .i64 s.aa) (.slice q.Q1 s.aw.length q.c1) (.slice q.Q2 s.aj.length q.c2) (.slice q.Q3 9 q.c3) (.int .i64 s.seq) (.int .i64 s.block) (.int .i64 s.slot) (.slice q.Q4 q.n4 q.c4) (.slice q.Q5 q.n5 q.c5) (.int .i64 q.pg) (.int .i64 q.er) (.int .i64 q.nb) (.int .i64 q.ns) (.bool s.af))
  have Dg : Hid (WZ.heap[w2.heap.size]? = some (.cells (UR q s (.slice q.Q1 s.aw.length q.c1) (.slice q.Q2 s.aj.length q.c2) (.slice q.Q3 9 q.c3) s.af) 43 (0, 0))) := by rw [← rj]; exact sD tS ..
  have kY : Hid (bW w1 WZ) := by rw [← rj]; exact nI iI Cr ..
  have UU : Hid (iE (fun b => X b ∨ b = w.heap.size + 1) WZ q s g.pg) := by
   rw [← rj]
   refine (hq.ao ((pY ..).more (fun b hb => .inr ?_))).cU (fun b hb => hb.elim .inl (fun e => .inr ⟨oM, by have h2 := Uu.size; rw [World.size_alloc] at h2; have h3 := dP.size; omega⟩))
   have h1 := iL.below.size
   subst hb
   refine ⟨oM, ?_⟩
   have h2 := Uu.size; rw [World.size_alloc] at h2; have h3 := gV.size; omega
  unfold pJ at rj
  obtain ⟨B5, po⟩ := ex w2.heap.size
  rw [po] at rj Dg ⊢
  rw [rj]
  clear rj po tS Cr y0 y1 y2 y3 y4 y5 y6 y7 y8 y9 Qc Uh Bt Ug Uf yf
 rotate_left
 focus
  have tS := zu Ut Ox
  have Cr : w1.heap.size ≤ w1.heap.size := Nat.le_refl _
  obtain ⟨WZ, rj⟩ := ex (pJ w4 w1.heap.size (.int .i64 s.first) (.int .i64 s.aa) (.slice q.Q1 s.aw.length q.c1) (.slice q.Q2 s.aj.length q.c2) (.slice q.Q3 9 q.c3) (.int .i64 s.seq) (.int .i64 s.block) (.int .i64 s.slot) (.slice q.Q4 q.n4 q.c4) (.slice q.Q5 q.n5 q.c5) (.int .i64 q.pg) (.int .i64 q.er) (.int .i64 q.nb) (.int .i64 q.ns) (.bool s.af))
  have Dg : Hid (WZ.heap[w1.heap.size]? = some (.cells (UR q s (.slice q.Q1 s.aw.length q.c1) (.slice q.Q2 s.aj.length q.c2) (.slice q.Q3 9 q.c3) s.af) 43 (0, 0))) := by rw [← rj]; exact sD tS ..
  have kY : Hid (bW w1 WZ) := by rw [← rj]; exact nI iI Cr ..
  have UU : Hid (iE (fun b => X b ∨ b = w.heap.size + 1) WZ q s g.pg) := by
   rw [← rj]
   refine (hq.ao ((pY ..).more (fun b hb => .inr ?_))).cU (fun b hb => hb.elim .inl (fun e => .inr ⟨oM, by have h4 := gV.size; omega⟩))
   have h1 := iL.below.size
   subst hb
   refine ⟨oM, ?_⟩
   have h2 := yO.size; have h3 : w1.heap.size < w2.heap.size := by have : (w1.alloc (.cells #[.int .i64 0, .int .i64 0, .slice none 0 0, .slice none 0 0, .slice none 0 0, .int .i64 0, .int .i64 0, .int .i64 0, .slice none 0 0, .slice none 0 0, .int .i64 0, .int .i64 0, .int .i64 0, .int .i64 0, .bool false] 43)).drew.heap.size = w1.heap.size + 1 := (World.size_alloc ..); omega
   have h4 := Uu.size
   omega
  unfold pJ at rj
  obtain ⟨B5, po⟩ := ex w1.heap.size
  rw [po] at rj Dg ⊢
  rw [rj]
  clear rj po tS Cr y0 y1 y2 y3 y4 y5 y6 y7 y8 y9 Qc Uh Bt Ug Uf yf
 rotate_left
 all_goals
  have U1 := iD (iL.ab kY)
  obtain ⟨b9, o9, xv, eI⟩ : ∃ b o, q.Q3 = some ⟨b, o, none⟩ ∧ ∀ j u, (aA s.saved)[j]? = some u → WZ.cell? ⟨b, o + j, none⟩ = some u := by
   obtain ⟨b, o, e, aY, _, hc⟩ := UU.c (by rw [xX]; simp [aA])
   exact ⟨b, o, e, hc⟩
  obtain ⟨z, hz⟩ := ex (s.saved[4 + 3 * va]?.getD 0)
  have HZ := iD hz
  have c0' : WZ.cell? ⟨b9, o9, none⟩ = some (.int .i64 (va : Int)) := eI 0 _ (by rw [xX]; rfl)
  have c4' : WZ.cell? ⟨b9, o9 + (4 + 3 * va), none⟩ = some (.int .i64 z) := eI _ _ (by
   rw [← hz]
   unfold aA
   rw [List.getElem?_map, List.getElem?_eq_getElem oM]
   rfl)
  have y4 : WZ.cell? ⟨B5, 4, none⟩ = some (.slice (some ⟨b9, o9, none⟩) 9 q.c3) := (cell_of_row WZ B5 4 _ 43 (0, 0) Dg).trans (by rw [xv]; rfl)
  have XO := iD xv
  clear xv
  have q1 : IntKind.i64.wrap (3 * (va : Int)) = 3 * (va : Int) := IntWalk.i64_in _ oM
  have q2 : IntKind.i64.wrap (4 + 3 * (va : Int)) = 4 + 3 * (va : Int) := IntWalk.i64_in _ oM
  have k0 : (0 : Int) ≤ 4 + 3 * (va : Int) := oM
  have k1 : 4 + 3 * (va : Int) < 9 := oM
  have k2 : (4 + 3 * (va : Int)).toNat = 4 + 3 * va := oM
  clear dP yO gV Uu iI hq Ut EE mv rU d0 d1 d2 d3 d4 d5 eI hz kb ksz
  by_cases ur : z = 0
  ·have Qq : (z == 0) = true := by simpa using ur
   have Ym : Hid (dU g first aa = 12) := by rw [Hid, Yi, HZ, iP ur]
   subst ur
   obtain ⟨dZ, lW, kV⟩ := U1.h6
   go_upto_region 7 with (fail)
   go_quiet (fail)
   go_upto_region 8 with (fail)
   refine wp_region_list ?_
   refine jr rfl 45 #[] rfl [] (by simp) eF GP ?_
   refine wpList_store_row rfl 45 _ _ rfl (w.heap.size + 1) eF rfl rfl 45 dZ kV sy (lW.trans rfl) zI ?_
   go_wp2
   (try simp only [Exit.inBlock, Exit.then])
   refine bodyPost_ret (v := .tuple #[.agg eF, .int .i64 12]) (cM (p := 6) (u := 7) rfl _ _ (w.heap.size + 1) 45 eF (0, 0) _ rfl (by exact setRow_heap _ _ dZ _ 45 (0, 0) kV) underlying45 rfl sy) rfl ⟨.agg eF, by rw [Ym], by first | exact below_setRow U1.below (Nat.le_succ _) _ | exact below_setRow (Below.drewN U1.below _) (Nat.le_succ _) _, fun _ => rfl, fun e => by rw [Ym] at e; cases e⟩
  have Qq : (z == 0) = false := by simpa using ur
  have P3 : Hid (dU g first aa = 0) := by rw [Hid, Yi, HZ, iN ur]
  clear ur
  obtain ⟨dZ, lW, kV⟩ := U1.h6
  go_upto_region 7 with (fail)
  go_quiet (fail)
  go_upto_region 9 with (fail)
  refine wp_region_list ?_
  refine mG (v := .int .i64 first) rfl (by rfl) ?_
  refine mG (v := .int .i64 aa) rfl (by rfl) ?_
  refine wpList_load_row rfl 43 _ rfl B5 rfl 43 _ (0, 0) _ Dg underlying43 rfl aP ?_
  refine jr rfl 45 _ rfl [(0, .int .i64 first), (1, .int .i64 aa), (2, .agg (UR q s (.slice q.Q1 s.aw.length q.c1) (.slice q.Q2 s.aj.length q.c2) (.slice q.Q3 9 q.c3) s.af)), (3, .int .i64 2)] (by simp [Act.eval, Act.put]) _ (Mn _ _ _ _ _ _ _ _ _ _ _ _ _ _ _ _ _ _) ?_
  refine wpList_store_row rfl 45 _ _ rfl (w.heap.size + 1) #[.int .i64 first, .int .i64 aa, .int .i64 s.first, .int .i64 s.aa, .slice q.Q1 s.aw.length q.c1, .slice q.Q2 s.aj.length q.c2, .slice q.Q3 9 q.c3, .int .i64 s.seq, .int .i64 s.block, .int .i64 s.slot, .slice q.Q4 q.n4 q.c4, .slice q.Q5 q.n5 q.c5, .int .i64 q.pg, .int .i64 q.er, .int .i64 q.nb, .int .i64 q.ns, .bool s.af, .int .i64 2, .bool false, .bool false, .int .i64 0, .int .i64 0, .int .i64 0, .int .i64 0, .slice none 0 0, .slice none 0 0] rfl rfl 45 dZ kV sy (lW.trans rfl) (Vv ..) ?_
  go_wp2
  (try simp only [Exit.inBlock, Exit.then])
  refine bodyPost_ret (v := .tuple #[.agg #[.int .i64 first, .int .i64 aa, .int .i64 s.first, .int .i64 s.aa, .slice q.Q1 s.aw.length q.c1, .slice q.Q2 s.aj.length q.c2, .slice q.Q3 9 q.c3, .int .i64 s.seq, .int .i64 s.block, .int .i64 s.slot, .slice q.Q4 q.n4 q.c4, .slice q.Q5 q.n5 q.c5, .int .i64 q.pg, .int .i64 q.er, .int .i64 q.nb, .int .i64 q.ns, .bool s.af, .int .i64 2, .bool false, .bool false, .int .i64 0, .int .i64 0, .int .i64 0, .int .i64 0, .slice none 0 0, .slice none 0 0], .int .i64 0]) (cM (p := 6) (u := 7) rfl _ _ (w.heap.size + 1) 45 #[.int .i64 first, .int .i64 aa, .int .i64 s.first, .int .i64 s.aa, .slice q.Q1 s.aw.length q.c1, .slice q.Q2 s.aj.length q.c2, .slice q.Q3 9 q.c3, .int .i64 s.seq, .int .i64 s.block, .int .i64 s.slot, .slice q.Q4 q.n4 q.c4, .slice q.Q5 q.n5 q.c5, .int .i64 q.pg, .int .i64 q.er, .int .i64 q.nb, .int .i64 q.ns, .bool s.af, .int .i64 2, .bool false, .bool false, .int .i64 0, .int .i64 0, .int .i64 0, .int .i64 0, .slice none 0 0, .slice none 0 0] (0, 0) _ rfl (by exact setRow_heap _ _ dZ _ 45 (0, 0) kV) underlying45 rfl sy) rfl ⟨_, by rw [P3], by first | exact below_setRow U1.below (Nat.le_succ _) _ | exact below_setRow (Below.drewN U1.below _) (Nat.le_succ _) _, fun e => absurd P3.out e, fun _ => ⟨⟨q, none, 0, 0, none, 0, 0⟩, ?_, rfl, rfl, rfl, rfl, rfl, rfl, ?_⟩⟩
  ·rw [Yh, U6, uJ, ← aac]
   rfl
  rw [Yh]
  have hk := fun cs nq => (UU.ao ((ah.ak (X := fun b => X b ∨ b = w.heap.size + 1) (Below.drewN (Below.refl WZ.heap.size WZ) nq)).trans (ah.row (WZ.drewN nq) (w.heap.size + 1) cs (.inr rfl)))).cU (Y := X) (fun b hb => .inl hb)
  exact hk _ _
theorem Ga (h : ca X w x g) (hX : ∀ b, X b → b < w.heap.size) (first aa : Int) (Cx : dI first) (dC : dI aa) :
 Calls prog 12 #[x.v g, .int .i64 first, .int .i64 aa] w (RFO X w g first aa) := by
 by_cases hE : eC g first aa = 0
 ·exact Ed h hX first aa hE
 exact Ec h first aa Cx dC hE
theorem gJ (h : C.size = 26) : (prog.info? 45).map (·.size) = some C.size := by
 rw [h]
 kernel_rfl
theorem yk (h : C.size = 15) : (prog.info? 43).map (·.size) = some C.size := by
 rw [h]
 kernel_rfl
theorem pF (h : C.size = 6) : (prog.info? 35).map (·.size) = some C.size := by
 rw [h]
 kernel_rfl
def F4 (C : Array Value) (o : Nat) (S : List Value) : Array Value := (C.toList.take o ++ S ++ C.toList.drop (o + S.length)).toArray
theorem World.aaU (h : w.heap = w'.heap) (e : { w with heap := w'.heap } = w') : w = w' := by
 rw [← e, ← h]
theorem setRow_setRow (w : World) (g : Nat) (a b : Array Value) : (w.setRow g a).setRow g b = w.setRow g b := by
 unfold World.setRow
 congr 1
 apply Array.ext_getElem?
 intro i
 simp only [Array.getElem?_modify]
 by_cases h : g = i
 ·subst h
  simp only [iP, Option.map_map]
  congr 1
  funext o
  cases o <;> rfl
 simp only [iN h]
theorem lz {g : Nat} {fr : Nat × Nat} (h : w.heap[g]? = some (.cells C t fr)) (j : Nat) (v : Value) : w.setCell ⟨g, j, none⟩ v = w.setRow g (C.setIfInBounds j v) := by
 unfold World.setCell World.setRow
 congr 1
 apply Array.ext_getElem?
 intro i
 simp only [Array.getElem?_modify]
 by_cases hi : g = i
 ·subst hi
  rw [h]
  rfl
 simp only [iN hi]
theorem BI {g : Nat} {fr : Nat × Nat} (h : w.heap[g]? = some (.cells C t fr)) : w.setRow g C = w := by
 have e : (w.setRow g C).heap = w.heap := by
  unfold World.setRow
  apply Array.ext_getElem?
  intro i
  simp only [Array.getElem?_modify]
  by_cases hi : g = i
  ·subst hi
   rw [h, iP rfl]
   rfl
  simp only [iN hi]
 exact World.aaU e rfl
theorem F3 {o : Nat} {S : List Value} (h : o + S.length ≤ C.size) (i : Nat) : (F4 C o S)[i]? = if i < o then C[i]? else if i < o + S.length then S[i - o]? else C[i]? := by
 have hl : C.toList.length = C.size := Array.length_toList
 unfold F4
 rw [List.getElem?_toArray, ← Array.getElem?_toList]
 by_cases h1 : i < o
 ·rw [iP h1, List.append_assoc, List.getElem?_append_left (by rw [List.length_take]; omega), List.getElem?_take, iP h1]
 rw [iN h1]
 by_cases h2 : i < o + S.length
 ·rw [iP h2, List.append_assoc, List.getElem?_append_right (by rw [List.length_take]; omega), List.getElem?_append_left (by rw [List.length_take]; omega), List.length_take]
  congr 1
  omega
 rw [iN h2, List.getElem?_append_right (by rw [List.length_append, List.length_take]; omega), List.getElem?_drop, List.length_append, List.length_take]
 congr 1
 omega
theorem iR : ∀ (S : List Value) {w : World} {g : Nat} {C : Array Value} {t : TypeId} {fr : Nat × Nat} (h : w.heap[g]? = some (.cells C t fr)) (o : Nat), o + S.length ≤ C.size → w.setCells g o S = w.setRow g (F4 C o S)
 | [], w, g, C, t, fr, h, o, ho => by
  have e : F4 C o [] = C := by
   unfold F4
   simp
  rw [e, BI h]
  rfl
 | v :: S, w, g, C, t, fr, h, o, ho => by
  simp only [List.length_cons] at ho
  show (w.setCell ⟨g, o, none⟩ v).setCells g (o + 1) S = _
  have hz : o + 1 + S.length ≤ (C.setIfInBounds o v).size := by rw [Array.size_setIfInBounds]; omega
  rw [lz h, iR S (setRow_heap w g C _ t fr h) (o + 1) hz, setRow_setRow]
  congr 1
  apply Array.ext_getElem?
  intro i
  rw [F3 hz, F3 (S := v :: S) (by simp only [List.length_cons]; omega), List.length_cons]
  simp only [Array.getElem?_setIfInBounds]
  rcases Nat.lt_trichotomy i o with h1 | h1 | h1
  ·rw [iP oM, iN oM, iP h1]
  ·subst h1
   rw [iP oM, iP rfl, iP oM, iN oM, iP oM, Nat.sub_self]
   rfl
  rw [iN oM, iN (show ¬ i < o by omega), iN (show ¬ o = i by omega)]
  by_cases hs : i < o + 1 + S.length
  ·rw [iP hs, iP oM, show i - o = (i - (o + 1)) + 1 by omega, List.getElem?_cons_succ]
  rw [iN hs, iN oM]
section
variable {ops : Array Oper} {rest : List Oper} {o : Oper} {a : Go.Act} {w : World} {Q : Exit → Go.Act → World → Prop}
theorem Z5 (oK : o.guard = none) (x : Operand) (ho : o.op = .load 45 x) (g : Nat) (hx : a.eval x = .pointer (some ⟨g, 0, none⟩)) (C : Array Value) (hg : w.heap[g]? = some (.cells C 45 (0, 0))) (hs : C.size = 26)
 (h : wpList prog ops Q rest (a.put o.dst (.agg C)) w) : wpList prog ops Q (o :: rest) a w :=
 wpList_load_row oK 45 x ho g hx 45 C (0, 0) _ hg underlying45 rfl (gJ hs) h
theorem Z6 (oK : o.guard = none) (x : Operand) (ho : o.op = .load 35 x) (g : Nat) (hx : a.eval x = .pointer (some ⟨g, 0, none⟩)) (C : Array Value) (hg : w.heap[g]? = some (.cells C 35 (0, 0))) (hs : C.size = 6)
 (h : wpList prog ops Q rest (a.put o.dst (.agg C)) w) : wpList prog ops Q (o :: rest) a w :=
 wpList_load_row oK 35 x ho g hx 35 C (0, 0) _ hg underlying35 rfl (pF hs) h
theorem Il (oK : o.guard = none) (x : Operand) (ho : o.op = .load 43 x) (g : Nat) (hx : a.eval x = .pointer (some ⟨g, 2, none⟩)) (C S : Array Value) (hg : w.heap[g]? = some (.cells C 45 (0, 0))) (hS : C.extract 2 17 = S) (hs : S.size = 15)
 (h : wpList prog ops Q rest (a.put o.dst (.agg S)) w) : wpList prog ops Q (o :: rest) a w := by
 have hr := World.rangeAt_of_block hg 2 15
 rw [show 2 + 15 = 17 from rfl, hS] at hr
 refine wpList_load_mid oK 43 x ho g 2 hx S.toList _ hr underlying43 rfl (by rw [Array.length_toList]; exact yk hs) ?_
 rw [Array.toArray_toList]
 exact h
theorem Vl (oK : o.guard = none) (x y : Operand) (ho : o.op = .store 45 x y) (hd : o.dst = none) (g : Nat) (C : Array Value) (hx : a.eval x = .pointer (some ⟨g, 0, none⟩)) (hy : a.eval y = .agg C) (dZ : Array Value) (hg : w.heap[g]? = some (.cells dZ 45 (0, 0))) (hs : C.size = 26) (hold : dZ.size = 26) (h1 : C.all (·.oneCell') = true)
 (h : wpList prog ops Q rest a (w.setRow g C)) : wpList prog ops Q (o :: rest) a w :=
 wpList_store_rowTo oK 45 x y ho hd g C hx hy 45 dZ hg (gJ hs) (hold.trans hs.symm) h1 h
theorem RT (oK : o.guard = none) (x y : Operand) (ho : o.op = .store 35 x y) (hd : o.dst = none) (g : Nat) (C : Array Value) (hx : a.eval x = .pointer (some ⟨g, 0, none⟩)) (hy : a.eval y = .agg C) (dZ : Array Value) (hg : w.heap[g]? = some (.cells dZ 35 (0, 0))) (hs : C.size = 6) (hold : dZ.size = 6) (h1 : C.all (·.oneCell') = true)
 (h : wpList prog ops Q rest a (w.setRow g C)) : wpList prog ops Q (o :: rest) a w :=
 wpList_store_rowTo oK 35 x y ho hd g C hx hy 35 dZ hg (pF hs) (hold.trans hs.symm) h1 h
theorem Hl (oK : o.guard = none) (x y : Operand) (ho : o.op = .store 43 x y) (hd : o.dst = none) (g : Nat) (S : Array Value) (hx : a.eval x = .pointer (some ⟨g, 2, none⟩)) (hy : a.eval y = .agg S) (dZ C : Array Value) (hg : w.heap[g]? = some (.cells dZ 45 (0, 0))) (hs : S.size = 15) (hold : dZ.size = 26) (h1 : S.all (·.oneCell') = true) (hC : F4 dZ 2 S.toList = C)
 (h : wpList prog ops Q rest a (w.setRow g C)) : wpList prog ops Q (o :: rest) a w := by
 have hl : S.toList.length = 15 := by rw [Array.length_toList]; exact hs
 refine wpList_store_mid oK 43 x y ho g 2 S hx hy (fun j hj => ?_) (yk hs) h1 ?_
 ·rw [cell_of_row w g (2 + j) dZ 45 (0, 0) hg, Array.getElem?_eq_getElem oM]
  exact ⟨rfl, frozen_of_row w g (2 + j) dZ 45 hg⟩
 rw [hd, iR S.toList hg 2 oM, hC]
 exact h
end
section
variable {ops : Array Oper} {op : Oper} {a : Go.Act} {S : World → Prop}
theorem ZN (hw : Region.wanted op (yielded ops a.tmps) = true) (x : Operand) (ho : op.op = .load 45 x) (g : Nat) (hx : a.eval x = .pointer (some ⟨g, 0, none⟩)) (C : Array Value) (hS : ∀ w, S w → w.heap[g]? = some (.cells C 45 (0, 0))) (hs : C.size = 26) : YieldsIf prog ops S op (.agg C) a :=
 bE hw 45 x ho g hx 45 C (0, 0) _ hS underlying45 rfl (gJ hs)
theorem ZO (hw : Region.wanted op (yielded ops a.tmps) = true) (x : Operand) (ho : op.op = .load 35 x) (g : Nat) (hx : a.eval x = .pointer (some ⟨g, 0, none⟩)) (C : Array Value) (hS : ∀ w, S w → w.heap[g]? = some (.cells C 35 (0, 0))) (hs : C.size = 6) : YieldsIf prog ops S op (.agg C) a :=
 bE hw 35 x ho g hx 35 C (0, 0) _ hS underlying35 rfl (pF hs)
theorem YC {ty : TypeId} (hw : Region.wanted op (yielded ops a.tmps) = true) (x : Operand) (ho : op.op = .load ty x) (g j : Nat) (hx : a.eval x = .pointer (some ⟨g, j, none⟩)) (v : Value) (hS : ∀ w, S w → (Instr.loadAt ty (.pointer (some ⟨g, j, none⟩))).run prog w = .ok v w) : YieldsIf prog ops S op v a :=
 .inl ⟨hw, fun w hw' => by
  unfold execOp
  simp only [ho, hx, hS w hw', Sem.run_bind, Sem.run_pure, Result.andThen_ok]⟩
theorem yv {v : Value} (hw : Region.wanted op (yielded ops a.tmps) = true) (he : ∀ w, (execOp a.eval op).run prog w = .ok (.value v) w) : YieldsIf prog ops S op v a := .inl ⟨hw, fun w _ => he w⟩
end
theorem ZS {g : Nat} {v : Value} (hc : w.cell? ⟨g, j, none⟩ = some v) : (Instr.loadAt 3 (.pointer (some ⟨g, j, none⟩))).run prog w = .ok v w := by go_simp
theorem zx {p' v : Tmp} {ty AW : TypeId} (h : fn.results = #[.cell p ty, .cell p' AW, .tmp u, .tmp v]) (tmps : Array Value) (w : World) (g g' : Nat) (t t' : TypeId) (cs cs' : Array Value) (d d' : TypeDesc) 
 (hp : tmps.getD p undef = .pointer (some ⟨g, 0, none⟩)) (Nj : tmps.getD p' undef = .pointer (some ⟨g', 0, none⟩)) (hg : w.heap[g]? = some (.cells cs t (0, 0))) (du : w.heap[g']? = some (.cells cs' t' (0, 0)))
 (hu : P.underlying ty = some d) (hd : (match d with | .struct _ | .array _ _ => true | _ => false) = true) (hi : (P.info? ty).map (·.size) = some cs.size)
 (ql : P.underlying AW = some d') (kW : (match d' with | .struct _ | .array _ _ => true | _ => false) = true) (Cu : (P.info? AW).map (·.size) = some cs'.size) :
 (results fn tmps).run P w = .ok (.tuple #[.agg cs, .agg cs', tmps.getD u undef, tmps.getD v undef]) w := by
 have e1 := run_loadVar_row (P := P) w g t ty cs (0, 0) d hg hu hd hi
 have e2 := run_loadVar_row (P := P) w g' t' AW cs' (0, 0) d' du ql kW Cu
 simp only [Array.getD_eq_getD_getElem?] at hp Nj
 simp [results, h, Sem.run_bind, hp, Nj, asAddr, e1, e2]
structure Fr (w wr : World) (l : List (Array Value × TypeId)) : Prop where
 below : bW w wr
 len : w.heap.size + l.length ≤ wr.heap.size
 row : ∀ i C t, l[i]? = some (C, t) → wr.heap[w.heap.size + i]? = some (.cells C t (0, 0))
section
variable {w wr w' : World} {l : List (Array Value × TypeId)}
theorem Fr.push (h : Fr w wr l) (hs : wr.heap.size = w.heap.size + l.length) (C : Array Value) (t : TypeId) : Fr w (wr.alloc (.cells C t)) (l ++ [(C, t)]) ∧ (wr.alloc (.cells C t)).heap.size = w.heap.size + (l ++ [(C, t)]).length := by
 have e : (wr.alloc (.cells C t)).heap.size = wr.heap.size + 1 := Array.size_push _
 refine ⟨⟨h.below.alloc h.below.size _, by rw [e, List.length_append]; simp; omega, fun i D u hi => ?_⟩, by rw [e, List.length_append]; simp; omega⟩
 by_cases hl : i < l.length
 ·rw [List.getElem?_append_left hl] at hi
  rw [Below.heap_alloc wr _ _ oM]
  exact h.row i D u hi
 rw [List.getElem?_append_right oM] at hi
 have h0 : i - l.length = 0 := by
  have := (List.getElem?_eq_some_iff.1 hi).1
  simp at this
  omega
 rw [h0] at hi
 simp only [List.getElem?_cons_zero, Option.some.injEq, Prod.mk.injEq] at hi
 obtain ⟨rfl, rfl⟩ := hi
 rw [show w.heap.size + i = wr.heap.size by omega]
 exact heap_alloc_new wr _
theorem Fr.nil (w : World) : Fr w w [] := ⟨Below.refl _ _, Nat.le_refl _, fun i C t h => by simp at h⟩
theorem Fr.one {a : TypeId} (h : w.alloc (.cells A a) = wr) : Fr w wr [(A, a)] := by
 obtain ⟨h1, s1⟩ := (Fr.nil w).push rfl A a
 rw [← h]
 exact h1
theorem Fr.two {B : Array Value} {a : TypeId} (h : (w.alloc (.cells A a)).alloc (.cells B b) = wr) : Fr w wr [(A, a), (B, b)] := by
 obtain ⟨h1, s1⟩ := (Fr.nil w).push rfl A a
 obtain ⟨h2, s2⟩ := h1.push s1 B b
 rw [← h]
 exact h2
theorem Fr.three {B : Array Value} {a c : TypeId} (h : ((w.alloc (.cells A a)).alloc (.cells B b)).alloc (.cells C c) = wr) : Fr w wr [(A, a), (B, b), (C, c)] := by
 obtain ⟨h1, s1⟩ := (Fr.nil w).push rfl A a
 obtain ⟨h2, s2⟩ := h1.push s1 B b
 obtain ⟨h3, s3⟩ := h2.push s2 C c
 rw [← h]
 exact h3
theorem Fr.four {B : Array Value} {a c d : TypeId} (h : (((w.alloc (.cells A a)).alloc (.cells B b)).alloc (.cells C c)).alloc (.cells D d) = wr) : Fr w wr [(A, a), (B, b), (C, c), (D, d)] := by
 obtain ⟨h1, s1⟩ := (Fr.nil w).push rfl A a
 obtain ⟨h2, s2⟩ := h1.push s1 B b
 obtain ⟨h3, s3⟩ := h2.push s2 C c
 obtain ⟨h4, s4⟩ := h3.push s3 D d
 rw [← h]
 exact h4
theorem Fr.lt (h : Fr w wr l) (hi : l[i]? = some (C, t)) : w.heap.size + i < wr.heap.size := (Array.getElem?_eq_some_iff.1 (h.row i C t hi)).1
theorem Fr.ab (h : Fr w wr l) (hb : bW wr w') : Fr w w' l :=
 ⟨h.below.trans (hb.mono h.below.size), Nat.le_trans h.len hb.size, fun i C t hi => (hb.block _ (h.lt hi)).trans (h.row i C t hi)⟩
theorem Fr.put (h : Fr w wr l) (i : Nat) (C : Array Value) (hi : l[i]? = some (D, t)) {l' : List (Array Value × TypeId)} (hl : l.set i (C, t) = l') : Fr w (wr.setRow (w.heap.size + i) C) l' := by
 subst hl
 refine ⟨below_setRow h.below (Nat.le_add_right _ _) _, by rw [List.length_set, size_setRow]; exact h.len, fun j E u hj => ?_⟩
 rw [List.getElem?_set] at hj
 by_cases hij : i = j
 ·subst hij
  rw [iP rfl, iP (List.getElem?_eq_some_iff.1 hi).1] at hj
  simp only [Option.some.injEq, Prod.mk.injEq] at hj
  obtain ⟨rfl, rfl⟩ := hj
  exact setRow_heap _ _ D _ t _ (h.row i D t hi)
 rw [iN hij] at hj
 rw [setRow_other _ _ _ _ oM]
 exact h.row j E u hj
theorem Fr.cell (h : Fr w wr l) (i j : Nat) (hi : l[i]? = some (C, t)) {v : Value} (hj : C[j]? = some v) : wr.cell? ⟨w.heap.size + i, j, none⟩ = some v := (cell_of_row wr _ j C t (0, 0) (h.row i C t hi)).trans hj
theorem Fr.fz (h : Fr w wr l) (i j : Nat) (hi : l[i]? = some (C, t)) : wr.frozen? ⟨w.heap.size + i, j, none⟩ = false := frozen_of_row wr _ j C t (h.row i C t hi)
theorem Fr.set (h : Fr w wr l) (i j : Nat) (hi : l[i]? = some (C, t)) (v : Value) {l' : List (Array Value × TypeId)} (hl : l.set i (C.setIfInBounds j v, t) = l') : Fr w (wr.setCell ⟨w.heap.size + i, j, none⟩ v) l' := by
 rw [lz (h.row i C t hi)]
 exact h.put i _ hi hl
end
section
variable {w wr : World} {l : List (Array Value × TypeId)} {C : Array Value} {t : TypeId}
theorem Fr.aE (h : Fr w wr ((C, t)::l)) : wr.heap[w.heap.size]? = some (.cells C t (0, 0)) := h.row 0 C t rfl
theorem Fr.BR (h : Fr w wr ((C, t)::l)) (D : Array Value) : Fr w (wr.setRow w.heap.size D) ((D, t)::l) := h.put 0 D (t := t) rfl rfl
theorem Fr.cell0 (h : Fr w wr ((C, t)::l)) (j : Nat) {v : Value} (hj : C[j]? = some v) : wr.cell? ⟨w.heap.size, j, none⟩ = some v := h.cell 0 j (t := t) rfl hj
theorem Fr.sS (h : Fr w wr ((C, t)::l)) (j : Nat) : wr.frozen? ⟨w.heap.size, j, none⟩ = false := h.fz 0 j (C := C) (t := t) rfl
theorem Fr.iF (h : Fr w wr ((C, t)::l)) (j : Nat) (v : Value) : Fr w (wr.setCell ⟨w.heap.size, j, none⟩ v) ((C.setIfInBounds j v, t)::l) := h.set 0 j (t := t) rfl v rfl
theorem Fr.dL {x0 : Array Value × TypeId} (h : Fr w wr (x0::(C, t)::l)) : wr.heap[(w.heap.size + 1)]? = some (.cells C t (0, 0)) := h.row 1 C t rfl
theorem Fr.ZU {x0 : Array Value × TypeId} (h : Fr w wr (x0::(C, t)::l)) (D : Array Value) : Fr w (wr.setRow (w.heap.size + 1) D) (x0::(D, t)::l) := h.put 1 D (t := t) rfl rfl
theorem Fr.oh {x0 : Array Value × TypeId} (h : Fr w wr (x0::(C, t)::l)) (j : Nat) {v : Value} (hj : C[j]? = some v) : wr.cell? ⟨(w.heap.size + 1), j, none⟩ = some v := h.cell 1 j (t := t) rfl hj
theorem Fr.Vq {x0 : Array Value × TypeId} (h : Fr w wr (x0::(C, t)::l)) (j : Nat) (v : Value) : Fr w (wr.setCell ⟨(w.heap.size + 1), j, none⟩ v) (x0::(C.setIfInBounds j v, t)::l) := h.set 1 j (t := t) rfl v rfl
theorem Fr.eU {x0 x1 : Array Value × TypeId} (h : Fr w wr (x0::x1::(C, t)::l)) : wr.heap[(w.heap.size + 2)]? = some (.cells C t (0, 0)) := h.row 2 C t rfl
theorem Fr.N3 {x0 x1 : Array Value × TypeId} (h : Fr w wr (x0::x1::(C, t)::l)) (D : Array Value) : Fr w (wr.setRow (w.heap.size + 2) D) (x0::x1::(D, t)::l) := h.put 2 D (t := t) rfl rfl
theorem Fr.Vp {x0 x1 : Array Value × TypeId} (h : Fr w wr (x0::x1::(C, t)::l)) (j : Nat) (v : Value) : Fr w (wr.setCell ⟨(w.heap.size + 2), j, none⟩ v) (x0::x1::(C.setIfInBounds j v, t)::l) := h.set 2 j (t := t) rfl v rfl
theorem Fr.Kx {x0 x1 x2 : Array Value × TypeId} (h : Fr w wr (x0::x1::x2::(C, t)::l)) : wr.heap[(w.heap.size + 3)]? = some (.cells C t (0, 0)) := h.row 3 C t rfl
theorem Fr.Vo {x0 x1 x2 : Array Value × TypeId} (h : Fr w wr (x0::x1::x2::(C, t)::l)) (j : Nat) (v : Value) : Fr w (wr.setCell ⟨(w.heap.size + 3), j, none⟩ v) (x0::x1::x2::(C.setIfInBounds j v, t)::l) := h.set 3 j (t := t) rfl v rfl
end
abbrev zB : Array Value := #[.int .i64 0, .int .i64 0, .int .i64 0, .int .i64 0, .slice none 0 0, .slice none 0 0, .slice none 0 0, .int .i64 0, .int .i64 0, .int .i64 0, .slice none 0 0, .slice none 0 0, .int .i64 0, .int .i64 0, .int .i64 0, .int .i64 0, .bool false, .int .i64 0, .bool false, .bool false, .int .i64 0, .int .i64 0, .int .i64 0, .int .i64 0, .slice none 0 0, .slice none 0 0]
abbrev zF : Array Value := Bi
def XF (X : Nat → Prop) (N k : Nat) (b : Nat) : Prop := X b ∨ (N ≤ b ∧ b < N + k)
section
variable {X : Nat → Prop} {w w' : World}
theorem XF.lt (h : ∀ b, X b → b < N) (hM : N + k ≤ M) : ∀ b, XF X N k b → b < M := fun b hb => by
 rcases hb with hb | hb
 ·have := h b hb
  omega
 omega
theorem zo (k : Nat) : ∀ b, b < w.heap.size → XF X w.heap.size k b → X b := fun b hb hx => by
 rcases hx with hx | hx
 ·exact hx
 omega
theorem pS (X : Nat → Prop) (N : Nat) : XF X N (k + 1) N := .inr ⟨Nat.le_refl _, oM⟩
theorem xf1 (X : Nat → Prop) (N : Nat) : XF X N (k + 2) (N + 1) := .inr ⟨oM, oM⟩
theorem xf2 (X : Nat → Prop) (N : Nat) : XF X N (k + 3) (N + 2) := .inr ⟨oM, oM⟩
theorem xf3 (X : Nat → Prop) (N : Nat) : XF X N (k + 4) (N + 3) := .inr ⟨oM, oM⟩
theorem ca.nl {Y : Nat → Prop} (h : ca X w x g) (hY : ∀ b, b < w.heap.size → Y b → X b) : ca Y w x g :=
 ⟨h.ok, h.a.dS hY, h.a1, h.a2, h.b.dS hY, h.b1, h.b2, h.p.dS hY, h.p1, h.p2⟩
theorem cn.xf {A : Option Addr} {xs : List Value} (h : cn X w A xs) (hb : bW w w') (k : Nat) : cn (XF X w.heap.size k) w' A xs := (h.dS (zo k)).below hb
theorem ca.xf (h : ca X w x g) (hb : bW w w') (k : Nat) : ca (XF X w.heap.size k) w' x g := (h.nl (zo k)).ao (.ak hb)
theorem iE.xf {q : Qv} {p : Nat} (h : iE X w q s p) (hb : bW w w') (k : Nat) : iE (XF X w.heap.size k) w' q s p := (h.dS (zo k)).below hb
end
theorem zy {v : Tmp} {ty : TypeId} (h : fn.results = #[.cell p ty, .tmp u, .tmp v]) (tmps : Array Value) (w : World) (g : Nat) (t : TypeId) (cs : Array Value) (fr : Nat × Nat) (d : TypeDesc) 
 (hp : tmps.getD p undef = .pointer (some ⟨g, 0, none⟩)) (hg : w.heap[g]? = some (.cells cs t fr))
 (hu : P.underlying ty = some d) (hd : (match d with | .struct _ | .array _ _ => true | _ => false) = true) (hi : (P.info? ty).map (·.size) = some cs.size) :
 (results fn tmps).run P w = .ok (.tuple #[.agg cs, tmps.getD u undef, tmps.getD v undef]) w := by
 have e1 := run_loadVar_row (P := P) w g t ty cs fr d hg hu hd hi
 simp only [Array.getD_eq_getD_getElem?] at hp
 simp [results, h, Sem.run_bind, hp, asAddr, e1]
section
variable {P : Program} {ops : Array Oper} {Q : Exit → Go.Act → World → Prop} {md : Region.Mode} {S : World → Prop} {fuel : Nat} {ax : Array Bool} {a : Go.Act} {w : World}
theorem DU (hr : Region.ready md ops ax = [i]) (h : wpOp P ops Q i (fun a' w' => S w' ∧ wpAnyH P md ops Q S fuel (ax.setIfInBounds i true) a' w') a w) : wpAnyH P md ops Q S (fuel + 1) ax a w := by
 refine wpAnyH_all hr (by simp) (fun k hk => ?_)
 simp only [List.mem_cons, List.not_mem_nil, or_false] at hk
 subst hk
 exact h
theorem DT (hr : Region.ready md ops ax = [i, j]) (h1 : wpOp P ops Q i (fun a' w' => S w' ∧ wpAnyH P md ops Q S fuel (ax.setIfInBounds i true) a' w') a w) (h2 : wpOp P ops Q j (fun a' w' => S w' ∧ wpAnyH P md ops Q S fuel (ax.setIfInBounds j true) a' w') a w) : wpAnyH P md ops Q S (fuel + 1) ax a w := by
 refine wpAnyH_all hr (by simp) (fun k hk => ?_)
 simp only [List.mem_cons, List.not_mem_nil, or_false] at hk
 rcases hk with rfl | rfl
 ·exact h1
 exact h2
variable {i : Nat} {oi : Oper} {K : Go.Act → World → Prop}
theorem od (hi : ops[i]? = some oi) (wi : Region.wanted oi (yielded ops a.tmps) = true) (ty : TypeId) (x : Operand) (ho : oi.op = .load ty x) (g : Nat) (hx : a.eval x = .pointer (some ⟨g, 0, none⟩)) (t : TypeId) (cs : Array Value) (d : TypeDesc) (hg : w.heap[g]? = some (.cells cs t (0, 0)))
 (hu : P.underlying ty = some d) (hd : (match d with | .struct _ | .array _ _ => true | _ => false) = true) (hsz : (P.info? ty).map (·.size) = some cs.size) (h : K (a.put oi.dst (.agg cs)) w) : wpOp P ops Q i K a w :=
 wpOp_step hi (fun K' hK => by
  rw [iP wi]
  exact wp_load_row ty x ho g hx t cs (0, 0) d hg hu hd hsz (hK _ _ h))
theorem fO (hi : ops[i]? = some oi) (wi : Region.wanted oi (yielded ops a.tmps) = true) (di : oi.dst = none) (ty : TypeId) (x y : Operand) (ho : oi.op = .store ty x y) (E : Nat) (c dZ : Array Value)
 (hx : a.eval x = .pointer (some ⟨E, 0, none⟩)) (hy : a.eval y = .agg c) (t : TypeId) (hE : w.heap[E]? = some (.cells dZ t (0, 0))) (hs : (P.info? ty).map (·.size) = some c.size) (hold : dZ.size = c.size) (h1 : c.all (·.oneCell') = true)
 (h : K a (w.setRow E c)) : wpOp P ops Q i K a w :=
 wpOp_step hi (fun K' hK => by
  rw [iP wi]
  refine wp_store_row ty x y ho E c hx hy t dZ hE hs hold h1 ?_
  rw [di, show a.put none undef = a from rfl]
  exact hK _ _ h)
theorem rz {al : List Value} (hi : ops[i]? = some oi) (wi : Region.wanted oi (yielded ops a.tmps) = true) (xl : List Operand) (JZ : Array TypeId) (ho : oi.op = .call { callee := .value (.func n), args := xl.toArray, argTypes := JZ }) (hargs : xl.map a.eval = al) (vU : ∀ (args : Array Value) (w : World), (callFunc n args).run P w = .ok (.enter n args) w) 
 (h : Calls P n al.toArray w fun e w' => ∃ v, e = .returned v ∧ K (a.put oi.dst v) w') : wpOp P ops Q i K a w :=
 wpOp_step hi (fun K' hK => by
  rw [iP wi]
  have he : (execOp a.eval oi).run P w = .ok (.enter n al.toArray) w := by
   obtain ⟨dst, op, ty, pos, after, guard⟩ := oi
   simp only at ho
   subst ho
   rw [execOp_call_go, show (#[] ++ xl.toArray.map a.eval ++ #[] : Array Value) = al.toArray by rw [← hargs]; simp]
   exact vU _ _
  unfold Oper.wp
  rw [he, Oper.upon_enter]
  refine h.mono ?_
  rintro e w' ⟨v, rfl, h2⟩
  exact hK _ _ h2)
end
section
variable {ops : Array Oper} {rest : List Oper} {o : Oper} {a : Go.Act} {w : World} {Q : Exit → Go.Act → World → Prop}
theorem Lb (oK : o.guard = none) (x : Operand) (ho : o.op = .load 43 x) (g : Nat) (hx : a.eval x = .pointer (some ⟨g, 0, none⟩)) (C : Array Value) (hg : w.heap[g]? = some (.cells C 43 (0, 0))) (hs : C.size = 15)
 (h : wpList prog ops Q rest (a.put o.dst (.agg C)) w) : wpList prog ops Q (o :: rest) a w :=
 wpList_load_row oK 43 x ho g hx 43 C (0, 0) _ hg underlying43 rfl (yk hs) h
theorem Qh (oK : o.guard = none) (x y : Operand) (ho : o.op = .store 43 x y) (hd : o.dst = none) (g : Nat) (C : Array Value) (hx : a.eval x = .pointer (some ⟨g, 0, none⟩)) (hy : a.eval y = .agg C) (dZ : Array Value) (hg : w.heap[g]? = some (.cells dZ 43 (0, 0))) (hs : C.size = 15) (hold : dZ.size = 15) (h1 : C.all (·.oneCell') = true)
 (h : wpList prog ops Q rest a (w.setRow g C)) : wpList prog ops Q (o :: rest) a w :=
 wpList_store_rowTo oK 43 x y ho hd g C hx hy 43 dZ hg (yk hs) (hold.trans hs.symm) h1 h
end
abbrev zS : Array Value := qB
def sa (q : Qv) (s : St) : Array Value := (aS q s)
def xa (x : Rc) (g : Fl) : Array Value := (aX x g)
theorem Eb (q : Qv) (s : St) : .agg (sa q s) = q.v s := rfl
theorem uk (x : Rc) (g : Fl) : .agg (xa x g) = x.v g := rfl
theorem cD (q : Qv) (s : St) : (sa q s).size = 15 := rfl
theorem aT (x : Rc) (g : Fl) : (xa x g).size = 6 := rfl
theorem gL (q : Qv) (s : St) : (sa q s).all (·.oneCell') = true := by simp [sa, Value.oneCell']
theorem mF (x : Rc) (g : Fl) : (xa x g).all (·.oneCell') = true := by simp [xa, Value.oneCell']
theorem oR {ops : Array Oper} {Q : Exit → Go.Act → World → Prop} {K : Go.Act → World → Prop} (hi : ops[i]? = some oi) (wi : Region.wanted oi (yielded ops a.tmps) = true) (ho : oi.op = .alloc 43) (h : K (a.put oi.dst (.pointer (some ⟨w.heap.size, 0, none⟩))) (w.alloc (.cells zS 43))) : wpOp prog ops Q i K a w := by
 refine wpOp_step hi (fun K' hK => ?_)
 rw [iP wi]
 have he : (execOp a.eval oi).run prog w = .ok (.value (.pointer (some ⟨w.heap.size, 0, none⟩))) (w.alloc (.cells zS 43)) := by
  unfold execOp
  simp only [ho]
  go_simp
 unfold Oper.wp
 rw [he]
 exact hK _ _ h
def X5 (X : Nat → Prop) (N B5 b : Nat) : Prop := XF X N 2 b ∨ b = B5
structure Fs (X : Nat → Prop) (w wr : World) (y : Rc) (g : Fl) (B5 : Nat) (q : Qv) (s : St) : Prop where
 fr : Fr w wr [(xa y g, 35), (zF, 35)]
 row : wr.heap[B5]? = some (.cells (sa q s) 43 (0, 0))
 lt : w.heap.size + 2 ≤ B5
 rv : iE (X5 X w.heap.size B5) wr q s g.pg
 ra : ca (X5 X w.heap.size B5) wr y g
section
variable {X : Nat → Prop} {w wr w' : World} {y y' : Rc} {g g' : Fl} {B5 : Nat} {q q' : Qv} {s s' : St}
theorem RH (hB : wr.heap.size ≤ B5) : ∀ b, b < wr.heap.size → X5 X N B5 b → XF X N 2 b := fun b hb hx => by
 rcases hx with hx | hx
 ·exact hx
 omega
theorem Fs.blt (h : Fs X w wr y g B5 q s) : B5 < wr.heap.size := (Array.getElem?_eq_some_iff.1 h.row).1
theorem Fs.ab (h : Fs X w wr y g B5 q s) (hb : bW wr w') : Fs X w w' y g B5 q s := ⟨h.fr.ab hb, (hb.block _ h.blt).trans h.row, h.lt, h.rv.below hb, h.ra.below hb⟩
theorem Fs.Ui (h : Fs X w wr y g B5 q s) (hX : ∀ b, X b → b < w.heap.size) : ∀ b, X5 X w.heap.size B5 b → b < wr.heap.size := fun b hb => by
 have h1 := h.blt
 have h2 := h.lt
 rcases hb with (hb | hb) | hb
 ·have := hX b hb
  omega
 ·omega
 omega
theorem Fs.N2 (h : Fs X w wr y g B5 q s) (hb : bW wr w') (hv : iE (X5 X w.heap.size B5) w' q' s' g.pg) : Fs X w (w'.setRow B5 (sa q' s')) y g B5 q' s' := by
 have h1 := h.ab hb
 have h2 := h.lt
 have ho := ah.row (X := X5 X w.heap.size B5) w' B5 (sa q' s') (.inr rfl)
 exact ⟨⟨below_setRow h1.fr.below oM _, by rw [size_setRow]; exact h1.fr.len, fun i C t hi => by
  have h3 := (List.getElem?_eq_some_iff.1 hi).1
  simp only [List.length_cons, List.length_nil] at h3
  rw [setRow_other _ _ _ _ oM]
  exact h1.fr.row i C t hi⟩, setRow_heap _ _ _ _ _ _ h1.row, h.lt, hv.ao ho, h1.ra.ao ho⟩
theorem Fs.new (h : Fr w wr [(xa y g, 35), (zF, 35)]) (hra : ca (XF X w.heap.size 2) wr y g) (hb : bW wr w') (hB : wr.heap.size ≤ B5) (hv : iE (XW (XF X w.heap.size 2) wr.heap.size M) w' q s g.pg) (hBM : B5 < M ∨ w'.heap.size ≤ B5) 
 (ho : ah (fun b => b = B5) w' W) (DF : bW wr W) (ED : W.heap[B5]? = some (.cells (sa q s) 43 (0, 0))) : Fs X w W y g B5 q s := by
 have hl := h.len
 simp only [List.length_cons, List.length_nil] at hl
 have kV : ah (X5 X w.heap.size B5) w' W := ho.more (fun b hb => .inr hb)
 refine ⟨h.ab DF, ED, oM, (hv.dS (fun b aY hx => ?_)).ao kV, (hra.nl (RH hB)).ao (.ak DF)⟩
 rcases hx with hx | hx
 ·exact .inl hx
 rcases hBM with h1 | h1
 ·exact .inr ⟨oM, oM⟩
 omega
end
section
variable {P : Program} {ops : Array Oper} {Q : Exit → Go.Act → World → Prop} {md : Region.Mode} {S : World → Prop} {k : Nat}
def fC (P : Program) (md : Region.Mode) (ops : Array Oper) (Q : Exit → Go.Act → World → Prop) (S : World → Prop) (k : Nat) : Nat → Array Bool → Go.Act → World → Prop
 | 0, ax, a, w => wpAny P md ops Q 0 ax a w
 | fuel + 1, ax, a, w => (Region.ready md ops ax = [] → Q .normal a w) ∧
  ∀ i ∈ Region.ready md ops ax, wpOp P ops Q i (fun a' w' => (i = k → wpAny P md ops Q fuel (ax.setIfInBounds i true) a' w') ∧ (i ≠ k → S w' ∧ fC P md ops Q S k fuel (ax.setIfInBounds i true) a' w')) a w
theorem Da : ∀ (fuel : Nat) (ax : Array Bool) (a : Go.Act) (w : World), fC P md ops Q S k fuel ax a w → wpAny P md ops Q fuel ax a w
 | 0, _, _, _, h => h
 | fuel + 1, ax, a, w, h => ⟨h.1, fun i hi => wpOp_mono (fun a' w' hh => by
  by_cases e : i = k
  ·exact hh.1 e
  exact Da fuel _ a' w' (hh.2 e).2) (h.2 i hi)⟩
theorem Ve {v : Value} (hi : ops[i]? = some oi) (hs : Region.noSelect ops = true) (Lj : ∀ o, ops[k]? = some o → ∃ e ∈ o.after, Region.binds md e = true ∧ e.on = i) 
 (hQ : ∀ c a w, Q (.panic c) (a.put oi.dst v) w → Q (.panic c) a w) :
 ∀ (fuel : Nat) (ax : Array Bool) (a : Go.Act) (w : World),
  (∀ j oj, ops[j]? = some oj → j ≠ i → ax.getD j true = false → (∀ e ∈ oj.after, Region.binds md e = true → e.on ≠ i) → oi.apart ops oj = true) →
  i ∈ Region.ready md ops ax → YieldsIf P ops S oi v a → S w →
  fC P md ops Q S k fuel (ax.setIfInBounds i true) (a.put oi.dst v) w → fC P md ops Q S k (fuel + 1) ax a w := by
 have Un := Region.noSelect_spec hs
 intro fuel
 induction fuel with
 | zero =>
  intro ax a w _ hr hy hS H
  have xx : i ≠ k := by
   rintro rfl
   obtain ⟨_, o, ho, gH⟩ := mem_ready.1 hr
   obtain ⟨e, he, hb, OD⟩ := Lj o ho
   have h1 := gH e he hb
   have h0 := (mem_ready.1 hr).1
   rw [OD] at h1
   cases aY : ax[i]? with
   | none => simp [aY] at h1
   | some z => simp [aY] at h0 h1; rw [h0] at h1; cases h1
  refine ⟨fun h => (by rw [h] at hr; cases hr), fun j hj => ?_⟩
  by_cases hji : j = i
  ·subst hji
   exact hy.wpOp hi hS ⟨fun e => absurd e xx, fun _ => ⟨hS, H⟩⟩
  have h1 := ready_mono hj hji
  rw [H.1] at h1
  cases h1
 | succ fuel ih =>
  intro ax a w Cw hr hy hS H
  have VI : ax.getD i true = false := (mem_ready.1 hr).1
  have Nn : ax.getD i false = false := by
   cases aY : ax[i]? with
   | none => simp [aY]
   | some z => simp [aY] at VI ⊢; exact VI
  have xx : i ≠ k := by
   rintro rfl
   obtain ⟨_, o, ho, gH⟩ := mem_ready.1 hr
   obtain ⟨e, he, hb, OD⟩ := Lj o ho
   have h1 := gH e he hb
   rw [OD, Nn] at h1
   cases h1
  refine ⟨fun h => (by rw [h] at hr; cases hr), fun j hj => ?_⟩
  by_cases hji : j = i
  ·subst hji
   exact hy.wpOp hi hS ⟨fun e => absurd e xx, fun _ => ⟨hS, H⟩⟩
  obtain ⟨Lu, oj, QF, gH⟩ := mem_ready.1 hj
  have OE : ∀ e ∈ oj.after, Region.binds md e = true → e.on ≠ i := fun e he hb OD => by
   have h1 := gH e he hb
   rw [OD, Nn] at h1
   cases h1
  have No : j ≠ k := by
   rintro rfl
   obtain ⟨e, he, hb, OD⟩ := Lj oj QF
   exact OE e he hb OD
  have h2 := wpOp_putIf QF (Cw j oj QF hji Lu OE) (fun cs b => Un i oi cs b hi) (fun cs b => Un j oj cs b QF) hQ hy (H.2 j (ready_mono hj hji))
  refine wpOp_mono (fun a' w' h3 => ⟨fun e => absurd e No, fun _ => ?_⟩) h2
  obtain ⟨VD, h4⟩ := h3
  obtain ⟨OO, h5⟩ := h4.2 No
  refine ⟨OO, ih (ax.setIfInBounds j true) a' w' (fun m om hm hmi hmun hmno => ?_) (ready_mono hr (Ne.symm hji)) VD OO ?_⟩
  ·refine Cw m om hm hmi ?_ hmno
   by_cases OF : j = m
   ·subst OF
    exact Lu
   rw [getD_set_ne true OF] at hmun
   exact hmun
  rw [Array.setIfInBounds_comm _ _ hji]
  exact h5
theorem Hb {v : Value} (hy : YieldsIf P ops (fun _ => True) oi v a) : Yields P ops oi v a := by
 rcases hy with ⟨h1, h2⟩ | h
 ·exact .inl ⟨h1, fun w => h2 w trivial⟩
 exact .inr h
theorem Vd {v : Value} (hi : ops[i]? = some oi) (hs : Region.noSelect ops = true) (xx : i ≠ k) 
 (hQ : ∀ c a w, Q (.panic c) (a.put oi.dst v) w → Q (.panic c) a w) :
 ∀ (fuel : Nat) (ax : Array Bool) (a : Go.Act) (w : World),
  (∀ j oj, ops[j]? = some oj → j ≠ i → ax.getD j true = false → (∀ e ∈ oj.after, Region.binds md e = true → e.on ≠ i) → oi.apart ops oj = true) →
  i ∈ Region.ready md ops ax → YieldsIf P ops (fun _ => True) oi v a → S w →
  fC P md ops Q S k fuel (ax.setIfInBounds i true) (a.put oi.dst v) w → fC P md ops Q S k (fuel + 1) ax a w := by
 have Un := Region.noSelect_spec hs
 intro fuel
 induction fuel with
 | zero =>
  intro ax a w _ hr hy hS H
  refine ⟨fun h => (by rw [h] at hr; cases hr), fun j hj => ?_⟩
  by_cases hji : j = i
  ·subst hji
   exact hy.wpOp hi trivial ⟨fun e => absurd e xx, fun _ => ⟨hS, H⟩⟩
  have h1 := ready_mono hj hji
  rw [H.1] at h1
  cases h1
 | succ fuel ih =>
  intro ax a w Cw hr hy hS H
  have VI : ax.getD i true = false := (mem_ready.1 hr).1
  have Nn : ax.getD i false = false := by
   cases aY : ax[i]? with
   | none => simp [aY]
   | some z => simp [aY] at VI ⊢; exact VI
  refine ⟨fun h => (by rw [h] at hr; cases hr), fun j hj => ?_⟩
  by_cases hji : j = i
  ·subst hji
   exact hy.wpOp hi trivial ⟨fun e => absurd e xx, fun _ => ⟨hS, H⟩⟩
  obtain ⟨Lu, oj, QF, gH⟩ := mem_ready.1 hj
  have OE : ∀ e ∈ oj.after, Region.binds md e = true → e.on ≠ i := fun e he hb OD => by
   have h1 := gH e he hb
   rw [OD, Nn] at h1
   cases h1
  have h2 := wpOp_putIf QF (Cw j oj QF hji Lu OE) (fun cs b => Un i oi cs b hi) (fun cs b => Un j oj cs b QF) hQ hy (H.2 j (ready_mono hj hji))
  have hfree' : ∀ m om, ops[m]? = some om → m ≠ i → (ax.setIfInBounds j true).getD m true = false → (∀ e ∈ om.after, Region.binds md e = true → e.on ≠ i) → oi.apart ops om = true := fun m om hm hmi hmun hmno => by
   refine Cw m om hm hmi ?_ hmno
   by_cases OF : j = m
   ·subst OF
    exact Lu
   rw [getD_set_ne true OF] at hmun
   exact hmun
  refine wpOp_mono (fun a' w' h3 => ⟨fun e => ?_, fun No => ?_⟩) h2
  ·obtain ⟨VD, h4⟩ := h3
   have h5 := h4.1 e
   rw [← Array.setIfInBounds_comm _ _ hji] at h5
   exact wpAny_first hi Un hQ fuel (ax.setIfInBounds j true) a' w' hfree' (ready_mono hr (Ne.symm hji)) (Hb VD) h5
  obtain ⟨VD, h4⟩ := h3
  obtain ⟨OO, h5⟩ := h4.2 No
  refine ⟨OO, ih (ax.setIfInBounds j true) a' w' hfree' (ready_mono hr (Ne.symm hji)) VD OO ?_⟩
  rw [Array.setIfInBounds_comm _ _ hji]
  exact h5
theorem Mx {v : Value} {fuel : Nat} (hi : ops[i]? = some oi) (hs : Region.noSelect ops = true) (hf : Region.free md ops ax i = true) (hr : (Region.ready md ops ax).contains i = true) 
 (xx : i ≠ k) (hQ : ∀ c a w, Q (.panic c) (a.put oi.dst v) w → Q (.panic c) a w) (hy : YieldsIf P ops (fun _ => True) oi v a) (hS : S w)
 (h : fC P md ops Q S k fuel (ax.setIfInBounds i true) (a.put oi.dst v) w) : fC P md ops Q S k (fuel + 1) ax a w :=
 Vd hi hs xx hQ fuel ax a w (Region.free_spec hi hf) (by simpa using hr) hy hS h
theorem Jj {v : Value} {fuel : Nat} (hi : ops[i]? = some oi) (hs : Region.noSelect ops = true) (hf : Region.free md ops ax i = true) (hr : (Region.ready md ops ax).contains i = true) 
 (hk : ((ops[k]?).map (·.after.any fun e => Region.binds md e && e.on == i)) = some true)
 (hQ : ∀ c a w, Q (.panic c) (a.put oi.dst v) w → Q (.panic c) a w) (hy : YieldsIf P ops S oi v a) (hS : S w)
 (h : fC P md ops Q S k fuel (ax.setIfInBounds i true) (a.put oi.dst v) w) : fC P md ops Q S k (fuel + 1) ax a w :=
 Ve hi hs (fun o ho => by
  rw [ho] at hk
  simp only [Option.map_some, Option.some.injEq, Array.any_eq_true', Bool.and_eq_true, beq_iff_eq] at hk
  obtain ⟨e, he, h1, h2⟩ := hk
  exact ⟨e, he, h1, h2⟩) hQ fuel ax a w (Region.free_spec hi hf) (by simpa using hr) hy hS h
theorem My {fuel : Nat} (hr : Region.ready md ops ax = [i]) (xx : i ≠ k) (h : wpOp P ops Q i (fun a' w' => S w' ∧ fC P md ops Q S k fuel (ax.setIfInBounds i true) a' w') a w) : fC P md ops Q S k (fuel + 1) ax a w :=
 ⟨fun h0 => (by rw [hr] at h0; cases h0), fun j hj => by
  rw [hr] at hj
  simp only [List.mem_cons, List.not_mem_nil, or_false] at hj
  subst hj
  exact wpOp_mono (fun a' w' hh => ⟨fun e => absurd e xx, fun _ => hh⟩) h⟩
theorem Db {fuel : Nat} (hr : Region.ready md ops ax = [i, j]) (xx : i ≠ k) (No : j ≠ k) (h : wpOp P ops Q i (fun a' w' => S w' ∧ fC P md ops Q S k fuel (ax.setIfInBounds i true) a' w') a w) 
 (h2 : wpOp P ops Q j (fun a' w' => S w' ∧ fC P md ops Q S k fuel (ax.setIfInBounds j true) a' w') a w) : fC P md ops Q S k (fuel + 1) ax a w :=
 ⟨fun h0 => (by rw [hr] at h0; cases h0), fun m hm => by
  rw [hr] at hm
  simp only [List.mem_cons, List.not_mem_nil, or_false] at hm
  rcases hm with rfl | rfl
  ·exact wpOp_mono (fun a' w' hh => ⟨fun e => absurd e xx, fun _ => hh⟩) h
  exact wpOp_mono (fun a' w' hh => ⟨fun e => absurd e No, fun _ => hh⟩) h2⟩
theorem Jk {fuel : Nat} (hr : Region.ready md ops ax = [k]) (h : wpOp P ops Q k (fun a' w' => wpAnyH P md ops Q (fun _ => True) fuel (ax.setIfInBounds k true) a' w') a w) : fC P md ops Q S k (fuel + 1) ax a w :=
 ⟨fun h0 => (by rw [hr] at h0; cases h0), fun j hj => by
  rw [hr] at hj
  simp only [List.mem_cons, List.not_mem_nil, or_false] at hj
  subst hj
  exact wpOp_mono (fun a' w' hh => ⟨fun _ => wpAny_of_held _ _ _ _ hh, fun e => absurd rfl e⟩) h⟩
theorem mi {id : Nat} (hm : P.follows .mixedOrders = true) (S : World → Prop) (k : Nat) (h : fC P .any ops Q S k ops.size (Array.replicate ops.size false) a w.drew) : (Code.region id ops true).wp P Q a w :=
 wp_region_any hm (Da _ _ _ _ h)
end
end Go.Proofs.YtjdknddnanopaaaGreat
