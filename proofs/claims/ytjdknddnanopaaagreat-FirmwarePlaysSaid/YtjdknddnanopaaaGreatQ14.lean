/-
  Part 14 of the proof.
-/
import Derived.Deep.MidRow
import Derived.Great.BuildSlice
import Derived.Test.YtjdknddnanopaaaGreatQ13
namespace Go.Proofs.YtjdknddnanopaaaGreat
open Go.RowKit Tryz
set_option maxRecDepth 100000
set_option maxHeartbeats 16000000
set_option linter.all false
variable {W w w' w0 : World} {A C D : Array Value} {B M N i j k n : Nat} {a : Go.Act} {x : Rc} {f g : Fl} {b t : TypeId} {X : Nat → Prop} {oi : Oper} {s : St} {ay : Array Bool} {P : Program} {o : Obj} {aa first : Int} {c d e : Value} {fn : Func} {p u : Tmp}
theorem rj (d : Nat) (w : World) : (binOp .eql 29 (.pointer (some ⟨d, 0, none⟩)) (.pointer none)).run prog w = .ok (.bool false) w := by kernel_rfl
theorem yI (a : Addr) (n c : Nat) (w : World) : (binOp .neq 32 (.slice (some a) n c) (.slice none 0 0)).run prog w = .ok (.bool true) w := by kernel_rfl
theorem yJ (w : World) : (binOp .neq 32 (.slice none 0 0) (.slice none 0 0)).run prog w = .ok (.bool false) w := by kernel_rfl
section
variable {w0 w w' : World} {L : Lc} {S : Sc} {K : Kc} {f : Fl} {b : Bk}
theorem cy (h : bo w0 w L S K f b) (ho : bD f b.st) (ii : Int) (i : Nat) (Nk : ii = i) (hi : i < b.st.ax.length) :
 Calls prog 68 #[.pointer (some ⟨K.D, 0, none⟩), .int .i64 ii] w fun e w' => e = .returned (.int .i64 (aU b i)) ∧ bW w w' := by
 have c3 := h.row 3 _ rfl
 have HS := iD (Hl h.st ho)
 obtain ⟨x, hx⟩ := getElem?_of_lt (l := b.st.an) (k := i) (by rw [ho.sl]; exact hi)
 have HX : Hid (aU b i = x) := by unfold aU; rw [Hid, hx]; rfl
 have hn : i < b.st.ax.length := hi
 have qS := ho.n2
 have MG := iD hx
 generalize b.st.ax.length = n at *
 clear h ho hx
 subst Nk
 go_enter func68, ntmps68
 go_wp2_with (fail)
 refine HS.mono ?_
 rintro e w1 ⟨v1, rfl, hO, hB⟩
 obtain ⟨A, c, rfl, h1, h2, h3⟩ := bL hO
 obtain ⟨bb, off, rfl, cB, e0⟩ := h3.int MG
 have HB := iD hB
 clear hO hB h3
 go_wp2
 go_ret
 exact ⟨by rw [HX]; rfl, HB⟩
theorem fe (h : bo w0 w L S K f b) : Calls prog 73 #[.pointer (some ⟨K.D, 0, none⟩)] w fun e w' => e = .returned (fy (if (ar b f).af = true then 20 else 0)) ∧ bo w0 w' L S K f (ar b f) ∧ ah (fun g => g = K.D) w w' := by
 have e1 := rj K.D
 have c0 := h.row 0 _ rfl
 have c4 := h.row 4 _ rfl
 have z4 := h.fz 4
 have HD := iD (nZ h.st.fl)
 obtain ⟨r, hr⟩ := ex (ar b f).af
 have HC := iD (h.jX 4 (.bool r) (ar b f) rfl rfl rfl (by unfold Kc.cells; rw [hr]; rfl))
 rw [hr]
 obtain ⟨W, hW⟩ := ex (w.setCell ⟨K.D, 4, none⟩ (.bool r))
 rw [hW] at HC
 have d4 : W.cell? ⟨K.D, 4, none⟩ = some (.bool r) := by have := HC.1.row 4 _ rfl; rw [hr] at this; exact this
 have Ok : r = (b.af || f.aF) := hr.symm
 clear hr h
 by_cases hb : b.af = true
 ·have hrt : r = true := by rw [Ok, hb]; rfl
  subst hrt
  rw [hb] at c4
  clear hb Ok
  go_enter func73, ntmps73
  go_wp2
  go_ret
  exact ⟨rfl, HC⟩
 have cU : b.af = false := by simpa using hb
 rw [cU] at c4
 have Dn : f.aF = r := by rw [Ok, cU]; rfl
 rw [Dn] at HD
 clear hb cU Ok Dn
 cases r with
 | true =>
  go_enter func73, ntmps73
  go_wp2_with (fail)
  refine HD.mono ?_
  rintro e w1 ⟨rfl, rfl⟩
  go_wp2
  go_ret
  exact ⟨rfl, HC⟩
 | false =>
  go_enter func73, ntmps73
  go_wp2_with (fail)
  refine HD.mono ?_
  rintro e w1 ⟨rfl, rfl⟩
  go_wp2
  go_ret
  exact ⟨rfl, HC⟩
theorem oL (h : bo w0 w L S K f b) : Calls prog 75 #[.pointer (some ⟨K.D, 0, none⟩)] w fun e w' => e = .returned (.iface 108 (.int .i64 20)) ∧ bo w0 w' L S K f { b with af := true } ∧ ah (fun g => g = K.D) w w' := by
 have c4 := h.row 4 _ rfl
 have z4 := h.fz 4
 have HC := iD (h.jX 4 (.bool true) { b with af := true } rfl rfl rfl rfl)
 clear h
 go_enter func75, ntmps75
 go_wp2
 go_ret
 exact ⟨rfl, HC⟩
theorem oz.yo {K : Kc} {d : List Int} (h : oz X w K (some d)) (hd : d ≠ []) : ∃ a, K.A = some a := by
 obtain ⟨bb, off, e, _⟩ := h.1 (by unfold ag; simpa using hd)
 exact ⟨_, e⟩
theorem dF (h : bo w0 w L S K f b) (hd : ∀ d, b.data = some d → d ≠ []) : Calls prog 85 #[.pointer (some ⟨K.D, 0, none⟩)] w fun e w' => e = .returned (.bool (bO b)) ∧ w = w' := by
 have rS := h.row 11 _ rfl
 have Dy := h.row 13 _ rfl
 have Mj := h.row 14 _ rfl
 obtain ⟨A, c, hv, h1, h2⟩ := h.er.form
 have HDT := iD h.dt
 rw [hv] at rS
 have YP : b.erase.length ≤ 9223372036854775807 := by unfold maxLen at h2; omega
 cases he : b.erase with
 | cons e l =>
  have HW : Hid (bO b = true) := by unfold bO; rw [Hid, he]; rfl
  rw [he] at rS YP
  simp only [List.length_cons] at rS YP
  obtain ⟨m, hm⟩ := ex (l.length + 1)
  rw [hm] at rS YP
  have nQ : 0 < m := oM
  clear h hm he hv h1 h2 hd
  go_enter func85, ntmps85
  go_wp2
  go_ret
  exact ⟨by rw [HW]; rfl, rfl⟩
 | nil =>
  rw [he] at rS
  simp only [List.length_nil] at rS
  cases uU : b.data with
  | some d =>
   obtain ⟨a, ha⟩ := oz.yo (by have := HDT.out; rw [uU] at this; exact this) (hd d uU)
   have HW : Hid (bO b = true) := by unfold bO; rw [Hid, he, uU]; rfl
   rw [ha] at Dy
   have q1 := yI a K.n K.c
   clear h he hv h1 h2 hd uU ha
   go_enter func85, ntmps85
   go_wp2
   go_ret
   exact ⟨by rw [HW]; rfl, rfl⟩
  | none =>
   have HW : Hid (bO b = b.bh) := by unfold bO; rw [Hid, he, uU]; rfl
   obtain ⟨a1, a2, a3⟩ : K.A = none ∧ K.n = 0 ∧ K.c = 0 := by have := HDT.out; rw [uU] at this; exact this
   rw [a1, a2, a3] at Dy
   have q1 := yJ
   clear h he hv h1 h2 hd uU a1 a2 a3
   go_enter func85, ntmps85
   go_wp2
   go_ret
   exact ⟨by rw [HW]; rfl, rfl⟩
theorem qk (h : bo w0 w L S K f b) (sU : b.aa = 2 * b.k + 2) (jG : b.k ≤ 8) (lX : b.first ≤ 64) (si : Int) (s : Nat) (Cj : si = s) (hs : s ≤ 2) : Calls prog 86 #[.pointer (some ⟨K.D, 0, none⟩), .int .i64 si] w fun e w' => e = .returned (.int .i64 (cI b s : Nat)) ∧ ∃ q, w' = w.drewN q := by
 have c1 := h.row 1 _ rfl
 have c2 := h.row 2 _ rfl
 obtain ⟨k, hk⟩ := ex b.k
 obtain ⟨F, hF⟩ := ex b.first
 obtain ⟨M, hM⟩ := ex (s * k)
 have HB : Hid (((cI b s : Nat) : Int) = (F : Int) + 2 + (M : Int)) := by unfold cI; rw [Hid, hk, hF, hM]; push_cast; rfl
 rw [hk] at sU jG
 obtain ⟨B, hB⟩ : ∃ B : Int, (b.aa : Int) = B := ⟨_, rfl⟩
 rw [hB] at c2
 rw [hF] at c1 lX
 have hB2 : B = 2 * (k : Int) + 2 := by rw [← hB, sU]; push_cast; rfl
 have acm : M ≤ 16 := by rw [← hM]; have := Nat.mul_le_mul hs jG; omega
 have e1 : (s : Int) * (B - 2) = 2 * (M : Int) := by
  rw [hB2, ← hM, show 2 * (k : Int) + 2 - 2 = 2 * (k : Int) by omega, ← Int.mul_assoc, Int.mul_comm (s : Int) 2, Int.mul_assoc]
  push_cast
  rfl
 have q0 : IntKind.i64.wrap (B - 2) = B - 2 := IntWalk.i64_in _ oM
 have q1 : IntKind.i64.wrap ((s : Int) * (B - 2)) = 2 * (M : Int) := by rw [e1]; exact IntWalk.i64_in _ oM
 have q2 : (2 * (M : Int)).tdiv 2 = (M : Int) := by rw [Int.tdiv_eq_ediv_of_nonneg oM]; omega
 have q2' : 2 * (M : Int) / 2 = (M : Int) := oM
 have q3 : IntKind.i64.wrap ((F : Int) + 2) = (F : Int) + 2 := IntWalk.i64_in _ oM
 have q4 : IntKind.i64.wrap ((F : Int) + 2 + (M : Int)) = (F : Int) + 2 + (M : Int) := IntWalk.i64_in _ oM
 subst Cj
 clear h sU hk hF hM hB hB2 e1
 go_enter func86, ntmps86
 go_wp2_with (fail)
 go_quiet (fail)
 go_wp2
 go_ret
 exact ⟨by rw [HB]; rfl, _, rfl⟩
theorem CB {A : Option Addr} {c : Nat} {l : List Int} (h : bo w0 w L S K f b) (ho : bD f b.st) (ii : Int) (i : Nat) (Nk : ii = i) (hi : i ≤ 9) (hn : l.length = n) (YO : n ≤ 9) (hA : cn (bQ L S) w A (aw l)) (dc : ls b.st i l) (hl : ∀ x ∈ l, dH x) :
 Calls prog 74 #[.pointer (some ⟨K.D, 0, none⟩), .int .i64 ii, .slice A n c] w fun e w' => e = .returned .nilIface ∧ bo w0 w' L S K f { b with st := dC b.st i l } ∧ ah (bQ L S) w w' := by
 have g1 := ne_nil
 have HA := iD hA
 have gV := iD dc
 have HL := iD hl
 have HO := iD ho
 have HH := iD h
 have HN := iD hn
 clear hA dc hl ho h hn
 subst Nk
 go_enter func74, ntmps74
 go_wp2_with (fail)
 go_loopw [12] (fun v wr => ∃ j : Nat, j ≤ n ∧ v = .int .i64 j ∧ bo w0 wr L S K f { b with st := dC b.st i (l.take j) } ∧ ah (bQ L S) w wr) (fun v _ => n - (intOf v).toNat)
 case atStart => exact ⟨0, Nat.zero_le _, rfl, HH, ah.refl _ _⟩
 case round =>
  obtain ⟨r, hr, rfl, hS, hX⟩ := hrel
  have J2 := iD hS
  have Fo := iD hX
  clear hS hX
  by_cases Eu : r < n
  ·obtain ⟨x, hx⟩ := getElem?_of_lt (l := l) (k := r) (by rw [HN]; exact Eu)
   obtain ⟨bb, off, rfl, cB, e0⟩ := (HA.ao Fo).rd.int hx
   obtain ⟨t1, t2⟩ := vp gV hx
   have c3 := J2.row 3 _ rfl
   have eW := iD (BD J2.st (lu HO (fun y hy => HL y (List.mem_of_mem_take hy))) ((i : Int) + (r : Int)) (i + r) (by push_cast; rfl) x t1)
   rw [← t2] at eW
   clear hx cB t1 t2
   go_wp2_with (fail)
   refine eW.mono ?_
   rintro e w7 ⟨rfl, hS, hX⟩
   have C5 : Hid (bo w0 w7 L S K f { b with st := dC b.st i (l.take (r + 1)) }) := J2.prog hS rfl rfl hX
   have HX7 : Hid (ah (bQ L S) w w7) := Fo.trans hX
   clear hS hX c3
   go_wp2_with (fail)
   go_roundw
   case rel => exact ⟨r + 1, oM, by go_num, C5, HX7⟩
   case measure => simp [intOf]; omega
  have Ol : r = n := oM
  subst Ol
  have HT : Hid (l.take r = l) := List.take_of_length_le (by rw [HN]; exact Nat.le_refl _)
  have C5 : Hid (bo w0 wr L S K f { b with st := dC b.st i l }) := by have := J2.out; rw [HT.out] at this; exact this
  go_wp2
  go_ret
  exact ⟨rfl, C5, Fo⟩
end
theorem BZ {b : Nat} (fh : s.ax.any fA = false) (h : Lg s.ax s.an) : (cT f s b j).ax = s.ax ∧ Lg s.ax (cT f s b j).an := by
 by_cases hc : (ff (bT f (aG s f b j) s.k)).2.2 ≠ 0 ∨ (ff (bT f (aG s f b j) s.k)).2.1.length ≠ s.ax.length ∨ (ff (bT f (aG s f b j) s.k)).1 ≤ s.seq
 ·rw [iu rfl hc]
  exact ⟨rfl, h⟩
 rw [j7 rfl hc]
 exact ⟨rfl, Ef fh _⟩
theorem vJ {f : Fl} {b : Nat} {s : St} (fh : s.ax.any fA = false) (h : Lg s.ax s.an) : ∀ n, (ea f b s n).ax = s.ax ∧ Lg s.ax (ea f b s n).an
 | 0 => ⟨rfl, h⟩
 | n + 1 => by
  obtain ⟨h1, h2⟩ := vJ fh h n
  rw [dP]
  have := BZ (f := f) (s := ea f b s n) (b := b) (j := n) (by rw [h1]; exact fh) (by rw [h1]; exact h2)
  rw [h1] at this
  exact this
theorem vK {f : Fl} {n : Nat} {s : St} (fh : s.ax.any fA = false) (h : Lg s.ax s.an) : ∀ m, (cS f n s m).ax = s.ax ∧ Lg s.ax (cS f n s m).an
 | 0 => ⟨rfl, h⟩
 | m + 1 => by
  obtain ⟨h1, h2⟩ := vK fh h m
  rw [eZ]
  have := vJ (f := f) (s := cS f n s m) (b := m) (by rw [h1]; exact fh) (by rw [h1]; exact h2) n
  rw [h1] at this
  exact this
theorem B2 {fi bl : Nat} {sp : List eB} (fh : sp.any fA = false) : (aJ f fi bl sp).ax = sp ∧ Lg sp (aJ f fi bl sp).an :=
 vK (s := dM fi bl sp) fh (tU fh) bl
theorem oJ (h : f.ok) (hE : eC f first aa = 0) : bS f (dI f first aa) := by
 obtain ⟨hd, a, k, rfl, rfl, k1, k8, hw, hp⟩ := mj hE
 have hsz := ec h k8
 have oG := mi hE (aN f (2 * k + 2))
 have dc := iB (n := aN f (2 * k + 2)) oM
 have hs := ko dc oG
 obtain ⟨l1, l2⟩ := B2 (f := f) (fi := a) (bl := 2) (ia (aN f (2 * k + 2)))
 have e : dI f (a : Int) ((2 * k + 2 : Nat) : Int) = pT (aJ f a 2 (aH (aN f (2 * k + 2)))) a (2 * k + 2) := rfl
 rw [e]
 have sU : (pT (aJ f a 2 (aH (aN f (2 * k + 2)))) a (2 * k + 2)).k = k := by
  show (2 * k + 2 - 2) / 2 = k
  omega
 refine ⟨kz dc oG, l1, ?_, ?_, ?_, .inl ?_, ?_, ?_, ?_, hw, hp, Nat.le_refl _, by show 0 ≤ 1; omega, ⟨Int.le_refl _, by show (0 : Int) ≤ 1073741824; omega⟩, Nat.zero_le _, Nat.le_refl _, fun e he => ?_, fun d hd => ?_, by show 0 < 1024; omega⟩
 ·exact hs.kp.f
 ·exact hs.kp.b
 ·show Lg (aJ f a 2 (aH (aN f (2 * k + 2)))).ax (aJ f a 2 (aH (aN f (2 * k + 2)))).an
  rw [l1]
  exact l2
 ·exact hs.re.1
 ·rw [sU]; rfl
 ·rw [sU]; exact k1
 ·rw [sU]; exact k8
 ·cases he
 cases hd
section
variable {w0 w w' : World} {L : Lc} {f : Fl}
def AQ (w0 w : World) (L : Lc) (f : Fl) (b : Bk) (e : Ending) (w' : World) : Prop :=
 ∃ S K, e = .returned (.tuple #[.pointer (some ⟨K.D, 0, none⟩), .nilIface]) ∧ bo w0 w' { L with E := fun g => L.E g ∨ g = K.D } S K f b ∧ bW w w' ∧ w.heap.size ≤ S.D ∧ w.heap.size ≤ S.G ∧ w.heap.size ≤ K.D ∧ K.v = .slice none 0 0
theorem bo.opened {S : Sc} (h : bM w0 w L S f s) (a aa : Nat) (W : World) (hW : w.alloc (.cells #[.pointer (some ⟨L.d, 0, none⟩), .int .i64 a, .int .i64 aa, .pointer (some ⟨S.D, 0, none⟩), .bool false, .int .i64 2, .bool false, .int .i64 0, .int .i64 0, .int .i64 0, .int .i64 0, .slice none 0 0, .int .i64 0, .slice none 0 0, .bool false] 118) = W) :
 bo w0 W { L with E := fun g => L.E g ∨ g = w.heap.size } S ⟨w.heap.size, .slice none 0 0, none, 0, 0⟩ f (pT s a aa) := by
 subst hW
 have hb : Below w.heap.size w (w.alloc (.cells #[.pointer (some ⟨L.d, 0, none⟩), .int .i64 a, .int .i64 aa, .pointer (some ⟨S.D, 0, none⟩), .bool false, .int .i64 2, .bool false, .int .i64 0, .int .i64 0, .int .i64 0, .int .i64 0, .slice none 0 0, .int .i64 0, .slice none 0 0, .bool false] 118)) := bV.alloc cV _
 refine ⟨h.tag hb (fun g => L.E g ∨ g = w.heap.size) (fun g hg => ?_) (fun g hg h2 => ?_), h.fl.below.size, fun h5 => ?_, .inr rfl, ?_, fun j => qj (qU w _ _), QS.nil _ _ _, (fun g hg => by cases hg), ⟨rfl, rfl, rfl⟩⟩
 ·rw [World.size_alloc]
  rcases hg with hg | hg
  ·have := h.fl.eb g hg; omega
  omega
 ·rcases h2 with h2 | h2
  ·exact h2
  omega
 ·have := h.dY _ (.inl h5)
  exact Nat.lt_irrefl _ this
 intro j u hu
 exact cm w _ _ j u _ rfl (by rw [← Array.getElem?_toList]; exact hu)
theorem Gd (h : bB w0 w L f) (first aa : Int) (hE : eC f first aa = 0) (Is : cn L.E w L.Ap (ag .u8 f.az)) :
 Calls prog 17 #[.pointer (some ⟨L.d, 0, none⟩), .int .i64 first, .int .i64 aa] w fun e w' => if dR f first aa = 0 then AQ w0 w L f (dI f first aa) e w' else e = .returned (.tuple #[.pointer none, fy (dR f first aa)]) ∧ bW w w' := by
 have g1 := ne_nil
 have gV := iD (oJ h.ok hE)
 obtain ⟨-, a, k, Du, cB, k1, k8, hw, -⟩ := mj hE
 have lG : f.aq.length ≤ 64 := h.ok.b2
 have HC := iD (wB h first aa (by unfold dH; omega) (by unfold dH; omega))
 rw [hE, bG] at HC
 have pa := iD (oK h k k8 aa cB)
 have hsz := ec h.ok k8
 have GN := iD (mi hE (aN f (2 * k + 2)))
 have Ds : dI f first aa = pT (aJ f a 2 (aH (aN f (2 * k + 2)))) a (2 * k + 2) := by
  rw [Du, cB]; rfl
 have Bc : dR f first aa = if (aJ f a 2 (aH (aN f (2 * k + 2)))).an[4 + 3 * ((aJ f a 2 (aH (aN f (2 * k + 2)))).an[0]?.getD 0).toNat]?.getD 0 = 0 then 12 else 0 := by
  unfold dR
  rw [iN (by rw [hE]; decide), Du, cB]
  rfl
 rw [Ds] at gV ⊢
 rw [Bc]
 obtain ⟨N, hN⟩ := ex (aN f (2 * k + 2))
 rw [hN] at pa hsz GN gV ⊢
 obtain ⟨s, hs⟩ := ex (aJ f a 2 (aH N))
 have HS := iD hs
 rw [hs] at gV ⊢
 have lQ : s.ax.length = 9 := by rw [← hs, (B2 (ia N)).1]; rfl
 obtain ⟨va, vt, vk, v0, l0, c0, v1, l1, c1, hv, b1, b2, b3, -⟩ := gV.vec
 have fB : s.an = _ := hv
 have X2 := iD (iB (n := N) oM)
 have HP := iD Is
 have HF := iD h
 have vT : 2 * k + 2 ≤ 18 := oM
 have ab9 : a ≤ 64 := oM
 obtain ⟨K, hK⟩ := ex (2 * k + 2)
 rw [hK] at gV cB vT ⊢
 subst cB
 rw [Du] at GN HC ⊢
 have Er : s.an[0]?.getD 0 = (va : Int) := by rw [fB]; rfl
 rw [Er, Int.toNat_natCast]
 have xX : Hid (aU (pT s a K) 0 = (va : Int)) := Er
 obtain ⟨z, hz⟩ := ex (s.an[4 + 3 * va]?.getD 0)
 have lW : Hid (aU (pT s a K) (4 + 3 * va) = z) := hz
 rw [hz]
 have nh : Hid ((pT s a K).st.ax.length = 9) := lQ
 have Vv : va ≤ 1 := b1
 clear h hE Is Ds Bc hs hv fB hN hz Er Du k1 k8 hK hw lG lQ
 go_enter func17, ntmps17
 go_wp2_with (fail)
 refine HC.mono ?_
 rintro e w1 ⟨rfl, rfl⟩
 go_wp2_with (fail)
 refine pa.mono ?_
 rintro e w1 ⟨rfl, rfl⟩
 go_wp2_with (fail)
 refine (yS N oM _).mono ?_
 rintro e w2 ⟨As, cs, rfl, gC, je, uB, hB⟩
 have uI := iD (yE (HF.ab hB) (a : Int) 2 a 2 rfl rfl As 9 cs (aH N) uB rfl gC je X2 GN (HP.below hB))
 rw [HS] at uI
 have fK := iD hB
 clear gC je uB hB
 go_wp2_with (fail)
 refine uI.mono ?_
 rintro e w3 ⟨S, rfl, hS, hB, hD, hG⟩
 have jd : Hid (bW w w3) := fK.trans (hB.mono fK.size)
 have eW := iD hS
 have Yo : Hid (w.heap.size ≤ S.D ∧ w.heap.size ≤ S.G) := ⟨Nat.le_trans fK.size hD, Nat.le_trans fK.size hG⟩
 clear hS hB hD hG
 go_wp2_with (fail)
 obtain ⟨W, hW⟩ := ex (w3.alloc (.cells #[.pointer (some ⟨L.d, 0, none⟩), .int .i64 a, .int .i64 K, .pointer (some ⟨S.D, 0, none⟩), .bool false, .int .i64 2, .bool false, .int .i64 0, .int .i64 0, .int .i64 0, .int .i64 0, .slice none 0 0, .int .i64 0, .slice none 0 0, .bool false] 118))
 have rM := iD (bo.opened eW a K W hW)
 have xE : Hid (bW w W) := by rw [← hW]; exact jd.alloc jd.size _
 rw [hW]
 clear hW
 refine (cy rM gV.ok 0 0 rfl (by rw [nh]; omega)).mono ?_
 rintro e w5 ⟨rfl, hB⟩
 rw [xX]
 have Yt := iD (rM.ab hB)
 have Ri : Hid (bW w w5) := xE.trans (hB.mono xE.size)
 clear hB
 go_wp2_with (fail)
 refine (cy Yt gV.ok (4 + 3 * (va : Int)) (4 + 3 * va) (by push_cast; rfl) (by rw [nh]; omega)).mono ?_
 rintro e w6 ⟨rfl, hB⟩
 rw [lW]
 have abw := iD (Yt.ab hB)
 have Rh : Hid (bW w w6) := Ri.trans (hB.mono Ri.size)
 clear hB
 by_cases hz : z = 0
 ·subst hz
  go_wp2
  go_ret2
  exact ⟨rfl, Rh⟩
 have HZ := iD hz
 have P7 : (z == 0) = false := by simpa using hz
 go_wp2
 go_ret2
 exact ⟨S, ⟨w3.heap.size, .slice none 0 0, none, 0, 0⟩, rfl, abw, Rh, Yo.1, Yo.2, jd.size, rfl⟩
end
structure Rb where
 q : Qv
 E : Option Addr
 ne : Nat
 ce : Nat
 P : Option Addr
 np : Nat
 cp : Nat
abbrev Rb.l (r : Rb) (b : Bk) : List Value := [.int .i64 b.first, .int .i64 b.aa, .int .i64 b.st.first, .int .i64 b.st.aa, .slice r.q.Q1 b.st.ax.length r.q.c1, .slice r.q.Q2 b.st.aj.length r.q.c2, .slice r.q.Q3 b.st.an.length r.q.c3, .int .i64 b.st.seq, .int .i64 b.st.block, .int .i64 b.st.av, .slice r.q.Q4 r.q.n4 r.q.c4, .slice r.q.Q5 r.q.n5 r.q.c5, .int .i64 r.q.pg, .int .i64 r.q.er, .int .i64 r.q.nb, .int .i64 r.q.ns, .bool b.st.af,
 .int .i64 b.av, .bool b.af, .bool b.au, .int .i64 b.dst, .int .i64 b.version, .int .i64 b.length, .int .i64 b.cH, .slice r.E r.ne r.ce, .slice r.P r.np r.cp]
abbrev Rb.v (r : Rb) (b : Bk) : Value := .agg #[.int .i64 b.first, .int .i64 b.aa, .int .i64 b.st.first, .int .i64 b.st.aa, .slice r.q.Q1 b.st.ax.length r.q.c1, .slice r.q.Q2 b.st.aj.length r.q.c2, .slice r.q.Q3 b.st.an.length r.q.c3, .int .i64 b.st.seq, .int .i64 b.st.block, .int .i64 b.st.av, .slice r.q.Q4 r.q.n4 r.q.c4, .slice r.q.Q5 r.q.n5 r.q.c5, .int .i64 r.q.pg, .int .i64 r.q.er, .int .i64 r.q.nb, .int .i64 r.q.ns, .bool b.st.af,
 .int .i64 b.av, .bool b.af, .bool b.au, .int .i64 b.dst, .int .i64 b.version, .int .i64 b.length, .int .i64 b.cH, .slice r.E r.ne r.ce, .slice r.P r.np r.cp]
def eF : Array Value := #[.int .i64 0, .int .i64 0, .int .i64 0, .int .i64 0, .slice none 0 0, .slice none 0 0, .slice none 0 0, .int .i64 0, .int .i64 0, .int .i64 0, .slice none 0 0, .slice none 0 0, .int .i64 0, .int .i64 0, .int .i64 0, .int .i64 0, .bool false, .int .i64 0, .bool false, .bool false, .int .i64 0, .int .i64 0, .int .i64 0, .int .i64 0, .slice none 0 0, .slice none 0 0]
theorem sx : (prog.info? 45).map (·.size) = some 26 := by kernel_rfl
structure Ob (w wr : World) (a b c d e f : Value) : Prop where
 below : bW w wr
 iI : iI wr w.heap.size a b c d e f
 h6 : ∃ dX : Array Value, dX.size = 26 ∧ wr.heap[w.heap.size + 1]? = some (.cells dX 45 (0, 0))
theorem Ob.ab {wr : World} {a b f : Value} (h : Ob w wr a b c d e f) (hb : bW wr w') : Ob w w' a b c d e f := by
 obtain ⟨dX, h1, h2⟩ := h.h6
 exact ⟨h.below.trans (hb.mono h.below.size), h.iI.below hb h.iI.lt, dX, h1, (hb.block _ (Array.getElem?_eq_some_iff.1 h2).1).trans h2⟩
theorem Ob.new {a b f : Value} {l : Array Value} (hl : l.size = 26) (h : (w.alloc (.cells #[a, b, c, d, e, f] 35)).alloc (.cells l 45) = W) : Ob w W a b c d e f := by
 subst h
 have hs : (w.alloc (.cells #[a, b, c, d, e, f] 35)).heap.size = w.heap.size + 1 := Array.size_push _
 refine ⟨ck _ _ _, (qE w a b c d e f 35 _ rfl).below (bV.alloc cV _) (by rw [hs]; omega), l, hl, ?_⟩
 rw [← hs]
 exact heap_alloc_new _ _
theorem FY (h : cf X w x g) (hX : ∀ b, X b → b < w.heap.size) (hE : eC g first aa = 0) {a : Nat} (Du : first = a) (hN : N ≤ 1000000) (A : Option Addr) (c : Nat) (hA : Rd w w.heap.size A (bK (aH N))) (hc : 9 ≤ c) (fS : c ≤ maxLen) :
 Calls prog 30 #[x.v g, .int .i64 first, .int .i64 2, .slice A 9 c] w fun e w' => ∃ q : Qv, e = .returned (.tuple #[q.v (aJ g a 2 (aH N)), .int .i64 0]) ∧ bW w w' ∧ ic X w' q (aJ g a 2 (aH N)) g.pg := by
 have ho := mi hE N
 obtain ⟨hd, a', k, aca, cB, k1, k8, hw, hp⟩ := mj hE
 have haa : a' = a := oM
 subst haa
 subst Du
 refine (KR h hX a' 2 A 9 c (aH N) hA rfl hc fS (iB hN) hd oM oM oM oM oM (ia N) (by simp only [aH, List.length_cons, List.length_nil, cO]; omega)).mono ?_
 rintro e w' ⟨v, rfl, hb, h1, h2⟩
 have hs := ko (iB hN) ho
 obtain ⟨q, Dp, AY⟩ := (h1 ho).rv (p := g.pg) hs.re.1 hs.re.2.2.2.2.2.2.2
 exact ⟨q, by rw [Dp, ho], hb, AY⟩
def RFO (X : Nat → Prop) (w : World) (g : Fl) (first aa : Int) (e : Ending) (w' : World) : Prop :=
 ∃ v, e = .returned (.tuple #[v, .int .i64 (dR g first aa)]) ∧ bW w w' ∧ (dR g first aa ≠ 0 → v = .agg eF) ∧ (dR g first aa = 0 → ∃ r : Rb, v = r.v (dI g first aa) ∧ r.ne = 0 ∧ r.E = none ∧ r.np = 0 ∧ r.ce = 0 ∧ r.P = none ∧ r.cp = 0 ∧ ic X w' r.q (dI g first aa).st g.pg)
theorem zI : (eF.all (·.oneCell')) = true := by unfold eF; simp [Value.oneCell']
theorem jt {ops : Array Oper} {rest : List Oper} {o : Oper} {a : Act} {Q : Exit → Act → World → Prop} (hg : o.guard = none) (t : TypeId) (parts : Array (Nat × Operand)) (ho : o.op = .build t parts) 
 (vs : List (Nat × Value)) (hv : (parts.map fun (i, x) => (i, a.eval x)).toList = vs) (cs : Array Value) (hb : P.built t vs = some cs)
 (h : wpList P ops Q rest (a.put o.dst (.agg cs)) w) : wpList P ops Q (o :: rest) a w := by
 refine wpList_build hg t parts ho (by rw [hv, hb]; rfl) ?_
 rw [hv, hb]
 exact h
theorem GI : prog.built 45 [] = some eF := by kernel_rfl
theorem D0 (h : cf X w x g) (first aa : Int) (Cr : dH first) (dB : dH aa) (hE : eC g first aa ≠ 0) :
 Calls prog 12 #[x.v g, .int .i64 first, .int .i64 aa] w (RFO X w g first aa) := by
 have HR := iD (fun w2 => sB h first aa Cr dB w2)
 have HE : Hid (dR g first aa = eC g first aa) := by unfold dR; rw [Hid, iP hE]
 have tr := iD hE
 obtain ⟨k, hk⟩ := ex (eC g first aa)
 have HK := iD hk
 rw [hk] at HR hE
 have A0 : (k == 0) = false := by simpa using hE
 obtain ⟨A, c, B, d, P, r⟩ := x
 obtain ⟨n1, e1⟩ := ex g.img.length
 obtain ⟨n2, e2⟩ := ex g.aq.length
 obtain ⟨n3, e3⟩ := ex g.az.length
 simp only [Rc.v] at HR ⊢
 rw [e1, e2, e3] at HR ⊢
 obtain ⟨W, hW⟩ := ex ((w.alloc (.cells #[.slice A n1 c, .int .i64 g.pg, .slice B n2 d, .bool g.aF, .int .i64 g.be, .slice P n3 r] 35)).alloc (.cells eF 45))
 have HO := iD (Ob.new rfl hW)
 obtain ⟨d0, d1, d2, d3, d4, d5, -⟩ := HO.iI
 unfold eF at hW
 clear h hk hE e1 e2 e3
 go_enter func12, ntmps12
 go_wp2_with (fail)
 try rw [hW]
 clear hW
 refine (HR W).mono ?_
 rintro e w1 ⟨rfl, hb⟩
 have iH := iD (HO.ab hb)
 clear hb d0 d1 d2 d3 d4 d5
 obtain ⟨dX, ng, lR⟩ := iH.h6
 go_upto_region 3 with (fail)
 refine wp_region_list ?_
 refine jt rfl 45 #[] rfl [] (by simp) eF GI ?_
 refine mF (v := .int .i64 k) rfl (by rfl) ?_
 refine wpList_store_row rfl 45 _ _ rfl (w.heap.size + 1) eF rfl rfl 45 dX lR sx (ng.trans rfl) zI ?_
 go_wp2
 (try simp only [Exit.inBlock, Exit.then])
 refine bodyPost_ret (v := .tuple #[.agg eF, .int .i64 k]) (cN (p := 6) (u := 7) rfl _ _ (w.heap.size + 1) 45 eF (0, 0) _ rfl (setRow_heap _ _ _ _ _ _ lR) underlying45 rfl sx) rfl ⟨.agg eF, by rw [HE, HK], below_setRow iH.below (Nat.le_succ _) _, fun _ => rfl, fun e => absurd (HE.out.symm.trans e) tr⟩
theorem OO (h : w.heap[B]? = some (.cells qt 43 (0, 0))) : w.cell? ⟨B, 0, none⟩ = some (.int .i64 0) ∧ w.cell? ⟨B, 1, none⟩ = some (.int .i64 0) ∧ w.cell? ⟨B, 2, none⟩ = some (.slice none 0 0) ∧ w.cell? ⟨B, 3, none⟩ = some (.slice none 0 0) ∧ w.cell? ⟨B, 4, none⟩ = some (.slice none 0 0) ∧ w.cell? ⟨B, 5, none⟩ = some (.int .i64 0) ∧ w.cell? ⟨B, 6, none⟩ = some (.int .i64 0) ∧ w.cell? ⟨B, 7, none⟩ = some (.int .i64 0) ∧ w.cell? ⟨B, 8, none⟩ = some (.slice none 0 0) ∧ w.cell? ⟨B, 9, none⟩ = some (.slice none 0 0) ∧ w.cell? ⟨B, 10, none⟩ = some (.int .i64 0) ∧ w.cell? ⟨B, 11, none⟩ = some (.int .i64 0) ∧ w.cell? ⟨B, 12, none⟩ = some (.int .i64 0) ∧ w.cell? ⟨B, 13, none⟩ = some (.int .i64 0) ∧ w.cell? ⟨B, 14, none⟩ = some (.bool false) ∧ ∀ j, w.frozen? ⟨B, j, none⟩ = false := by
 refine ⟨?_, ?_, ?_, ?_, ?_, ?_, ?_, ?_, ?_, ?_, ?_, ?_, ?_, ?_, ?_, fun j => frozen_of_row w B j _ 43 h⟩
 all_goals (rw [cell_of_row w B _ _ 43 (0, 0) h]; rfl)
theorem jD (h : Below N w0 w) (hB : N ≤ B) (v0 v1 v2 v3 v4 v5 v6 v7 v8 v9 v10 v11 tC Bt yj : Value) : Below N w0 (((((((((((((((w.setCell ⟨B, 0, none⟩ v0).setCell ⟨B, 1, none⟩ v1).setCell ⟨B, 2, none⟩ v2).setCell ⟨B, 3, none⟩ v3).setCell ⟨B, 4, none⟩ v4).setCell ⟨B, 5, none⟩ v5).setCell ⟨B, 6, none⟩ v6).setCell ⟨B, 7, none⟩ v7).setCell ⟨B, 8, none⟩ v8).setCell ⟨B, 9, none⟩ v9).setCell ⟨B, 10, none⟩ v10).setCell ⟨B, 11, none⟩ v11).setCell ⟨B, 12, none⟩ tC).setCell ⟨B, 13, none⟩ Bt).setCell ⟨B, 14, none⟩ yj) :=
 (((((((((((((((h.setCell (p := ⟨B, 0, none⟩) hB v0).setCell (p := ⟨B, 1, none⟩) hB v1).setCell (p := ⟨B, 2, none⟩) hB v2).setCell (p := ⟨B, 3, none⟩) hB v3).setCell (p := ⟨B, 4, none⟩) hB v4).setCell (p := ⟨B, 5, none⟩) hB v5).setCell (p := ⟨B, 6, none⟩) hB v6).setCell (p := ⟨B, 7, none⟩) hB v7).setCell (p := ⟨B, 8, none⟩) hB v8).setCell (p := ⟨B, 9, none⟩) hB v9).setCell (p := ⟨B, 10, none⟩) hB v10).setCell (p := ⟨B, 11, none⟩) hB v11).setCell (p := ⟨B, 12, none⟩) hB tC).setCell (p := ⟨B, 13, none⟩) hB Bt).setCell (p := ⟨B, 14, none⟩) hB yj)
def pA (w : World) (B : Nat) (v0 v1 v2 v3 v4 v5 v6 v7 v8 v9 v10 v11 tC Bt yj : Value) : World := (((((((((((((((w.setCell ⟨B, 0, none⟩ v0).setCell ⟨B, 1, none⟩ v1).setCell ⟨B, 2, none⟩ v2).setCell ⟨B, 3, none⟩ v3).setCell ⟨B, 4, none⟩ v4).setCell ⟨B, 5, none⟩ v5).setCell ⟨B, 6, none⟩ v6).setCell ⟨B, 7, none⟩ v7).setCell ⟨B, 8, none⟩ v8).setCell ⟨B, 9, none⟩ v9).setCell ⟨B, 10, none⟩ v10).setCell ⟨B, 11, none⟩ v11).setCell ⟨B, 12, none⟩ tC).setCell ⟨B, 13, none⟩ Bt).setCell ⟨B, 14, none⟩ yj)
theorem sD {u0 u1 u2 u3 u4 u5 u6 u7 u8 u9 JI JH JG JF FN : Value} (h : w.heap[B]? = some (.cells #[u0, u1, u2, u3, u4, u5, u6, u7, u8, u9, JI, JH, JG, JF, FN] 43 (0, 0))) (v0 v1 v2 v3 v4 v5 v6 v7 v8 v9 v10 v11 tC Bt yj : Value) : (pA w B v0 v1 v2 v3 v4 v5 v6 v7 v8 v9 v10 v11 tC Bt yj).heap[B]? = some (.cells #[v0, v1, v2, v3, v4, v5, v6, v7, v8, v9, v10, v11, tC, Bt, yj] 43 (0, 0)) := by
 unfold pA
 have h := heap_setCell_same _ _ 14 _ 43 yj (heap_setCell_same _ _ 13 _ 43 Bt (heap_setCell_same _ _ 12 _ 43 tC (heap_setCell_same _ _ 11 _ 43 v11 (heap_setCell_same _ _ 10 _ 43 v10 (heap_setCell_same _ _ 9 _ 43 v9 (heap_setCell_same _ _ 8 _ 43 v8 (heap_setCell_same _ _ 7 _ 43 v7 (heap_setCell_same _ _ 6 _ 43 v6 (heap_setCell_same _ _ 5 _ 43 v5 (heap_setCell_same _ _ 4 _ 43 v4 (heap_setCell_same _ _ 3 _ 43 v3 (heap_setCell_same _ _ 2 _ 43 v2 (heap_setCell_same _ _ 1 _ 43 v1 (heap_setCell_same _ _ 0 _ 43 v0 h))))))))))))))
 simp only [List.setIfInBounds_toArray, List.set_cons_zero, List.set_cons_succ] at h
 exact h
theorem ah.push (h : ah (fun b => b = B) w w') (j : Nat) (v : Value) : ah (fun b => b = B) w (w'.setCell ⟨B, j, none⟩ v) :=
 h.trans (ah.set (X := fun b => b = B) w' ⟨B, j, none⟩ v (show B = B from rfl))
theorem pQ (w : World) (B : Nat) (v0 v1 v2 v3 v4 v5 v6 v7 v8 v9 v10 v11 tC Bt yj : Value) : ah (fun b => b = B) w (pA w B v0 v1 v2 v3 v4 v5 v6 v7 v8 v9 v10 v11 tC Bt yj) :=
 (((((((((((((((ah.refl (fun b => b = B) w).push 0 v0).push 1 v1).push 2 v2).push 3 v3).push 4 v4).push 5 v5).push 6 v6).push 7 v7).push 8 v8).push 9 v9).push 10 v10).push 11 v11).push 12 tC).push 13 Bt).push 14 yj
theorem nH (h : Below N w0 w) (hB : N ≤ B) (v0 v1 v2 v3 v4 v5 v6 v7 v8 v9 v10 v11 tC Bt yj : Value) : Below N w0 (pA w B v0 v1 v2 v3 v4 v5 v6 v7 v8 v9 v10 v11 tC Bt yj) := jD h hB v0 v1 v2 v3 v4 v5 v6 v7 v8 v9 v10 v11 tC Bt yj
def XW (X : Nat → Prop) (N M b : Nat) : Prop := X b ∨ (N ≤ b ∧ b < M)
theorem cf.wide (h : cf X w x g) (hb : bW w W) : cf (XW X w.heap.size W.heap.size) W x g := by
 have hY : ∀ b, b < w.heap.size → XW X w.heap.size W.heap.size b → X b := fun b aW hx => hx.elim id (fun e => oM)
 have h1 : cf (XW X w.heap.size W.heap.size) w x g := ⟨h.ok, h.a.dQ hY, h.a1, h.a2, h.b.dQ hY, h.b1, h.b2, h.p.dQ hY, h.p1, h.p2⟩
 exact h1.below hb
theorem Ml (a b c : Int) (v0 v1 v2 v3 v4 v5 v6 v7 v8 v9 v10 v11 tC Bt yj : Value) : prog.built 45 [(0, .int .i64 a), (1, .int .i64 b), (2, .agg #[v0, v1, v2, v3, v4, v5, v6, v7, v8, v9, v10, v11, tC, Bt, yj]), (3, .int .i64 c)] = some #[.int .i64 a, .int .i64 b, v0, v1, v2, v3, v4, v5, v6, v7, v8, v9, v10, v11, tC, Bt, yj, .int .i64 c, .bool false, .bool false, .int .i64 0, .int .i64 0, .int .i64 0, .int .i64 0, .slice none 0 0, .slice none 0 0] := by kernel_rfl
theorem Vj (a0 a1 : Int) (b0 b1 : Int) (Q1 Q2 Q3 Q4 Q5 : Option Addr) (n1 c1 n2 c2 n3 c3 n4 c4 n5 c5 : Nat) (i1 i2 i3 i4 i5 i6 i7 : Int) (t1 : Bool) (r : Int) (t2 t3 : Bool) (j1 j2 j3 j4 : Int) (E P : Option Addr) (ne ce np cp : Nat) :
 (#[Value.int .i64 a0, .int .i64 a1, .int .i64 b0, .int .i64 b1, .slice Q1 n1 c1, .slice Q2 n2 c2, .slice Q3 n3 c3, .int .i64 i1, .int .i64 i2, .int .i64 i3, .slice Q4 n4 c4, .slice Q5 n5 c5, .int .i64 i4, .int .i64 i5, .int .i64 i6, .int .i64 i7, .bool t1, .int .i64 r, .bool t2, .bool t3, .int .i64 j1, .int .i64 j2, .int .i64 j3, .int .i64 j4, .slice E ne ce, .slice P np cp].all (·.oneCell')) = true := by
 simp [Value.oneCell']
theorem Ke {G : Prop} (h : w.heap[B]? = some (.cells qt 43 (0, 0))) (k : w.cell? ⟨B, 0, none⟩ = some (.int .i64 0) → w.cell? ⟨B, 1, none⟩ = some (.int .i64 0) → w.cell? ⟨B, 2, none⟩ = some (.slice none 0 0) → w.cell? ⟨B, 3, none⟩ = some (.slice none 0 0) → w.cell? ⟨B, 4, none⟩ = some (.slice none 0 0) → w.cell? ⟨B, 5, none⟩ = some (.int .i64 0) → w.cell? ⟨B, 6, none⟩ = some (.int .i64 0) → w.cell? ⟨B, 7, none⟩ = some (.int .i64 0) → w.cell? ⟨B, 8, none⟩ = some (.slice none 0 0) → w.cell? ⟨B, 9, none⟩ = some (.slice none 0 0) → w.cell? ⟨B, 10, none⟩ = some (.int .i64 0) → w.cell? ⟨B, 11, none⟩ = some (.int .i64 0) → w.cell? ⟨B, 12, none⟩ = some (.int .i64 0) → w.cell? ⟨B, 13, none⟩ = some (.int .i64 0) → w.cell? ⟨B, 14, none⟩ = some (.bool false) → (∀ j, w.frozen? ⟨B, j, none⟩ = false) → G) : G := by
 obtain ⟨y0, y1, y2, y3, y4, y5, y6, y7, y8, y9, PV, TW, AT, TV, TU, yf⟩ := OO h
 exact k y0 y1 y2 y3 y4 y5 y6 y7 y8 y9 PV TW AT TV TU yf
theorem carry {p G : Prop} (h : p) (k : p → G) : G := k h
theorem sC (h : Below (w.alloc o).heap.size (w.alloc o) w') : w'.heap[w.heap.size]? = some o := (h.block _ (by simp)).trans (heap_alloc_new w o)
theorem vz (h : Below (w.alloc o).drew.heap.size (w.alloc o).drew w') : w'.heap[w.heap.size]? = some o := (h.block _ (by simp)).trans (heap_alloc_new w o)
theorem zu (h : bW w w') (hr : w.heap[B]? = some o) : w'.heap[B]? = some o := (h.block _ (Array.getElem?_eq_some_iff.1 hr).1).trans hr
theorem D1 (h : cf X w x g) (hX : ∀ b, X b → b < w.heap.size) (first aa : Int) (hE : eC g first aa = 0) :
 Calls prog 12 #[x.v g, .int .i64 first, .int .i64 aa] w (RFO X w g first aa) := by
 have dc := h.ok
 have gV := iD (oJ h.ok hE)
 obtain ⟨qc, a, k, Du, cB, k1, k8, hw, -⟩ := mj hE
 have lG : g.aq.length ≤ 64 := h.ok.b2
 have hsz := ec h.ok k8
 have Ds : dI g first aa = pT (aJ g a 2 (aH (aN g (2 * k + 2)))) a (2 * k + 2) := by
  rw [Du, cB]; rfl
 have Bc : dR g first aa = if (aJ g a 2 (aH (aN g (2 * k + 2)))).an[4 + 3 * ((aJ g a 2 (aH (aN g (2 * k + 2)))).an[0]?.getD 0).toNat]?.getD 0 = 0 then 12 else 0 := by
  unfold dR
  rw [iN (by rw [hE]; decide), Du, cB]
  rfl
 have HR := iD (fun w2 => sB h first aa (by unfold dH; omega) (by unfold dH; omega) w2)
 rw [hE] at HR
 have AH := iD (fun w2 => uP h k k8 aa cB w2)
 obtain ⟨N, hN⟩ := ex (aN g (2 * k + 2))
 rw [Ds] at gV
 rw [hN] at AH hsz Ds Bc gV
 have Fy := iD (fun (W : World) (hb : bW w W) (A' : Option Addr) (c' : Nat) hA h1 h2 => FY (h.wide hb) (fun b cU => cU.elim (fun e => Nat.lt_of_lt_of_le (hX b e) hb.size) (fun e => e.2)) hE Du (N := N) oM A' c' hA h1 h2)
 obtain ⟨s, hs⟩ := ex (aJ g a 2 (aH N))
 rw [hs] at Fy Ds Bc gV
 obtain ⟨va, vt, vk, v0, l0, c0, v1, l1, c1, hv, b1, b2, b3, -⟩ := gV.vec
 have fB : s.an = _ := hv
 have Er : s.an[0]?.getD 0 = (va : Int) := by rw [fB]; rfl
 have aac : s.an.length = 9 := by rw [fB]; rfl
 rw [Er, Int.toNat_natCast] at Bc
 have Yg := iD Ds
 have Yi := iD Bc
 have xV := iD fB
 obtain ⟨A, c, B, d, P, r⟩ := x
 obtain ⟨n1, e1⟩ := ex g.img.length
 obtain ⟨n2, e2⟩ := ex g.aq.length
 obtain ⟨n3, e3⟩ := ex g.az.length
 simp only [Rc.v] at HR AH Fy ⊢
 rw [e1, e2, e3, qc] at HR AH Fy ⊢
 obtain ⟨W, hW⟩ := ex ((w.alloc (.cells #[.slice A n1 c, .int .i64 g.pg, .slice B n2 d, .bool false, .int .i64 g.be, .slice P n3 r] 35)).alloc (.cells eF 45))
 have HO := iD (Ob.new rfl hW)
 obtain ⟨d0, d1, d2, d3, d4, d5, -⟩ := HO.iI
 unfold eF at hW
 have Sw : 0 ≤ first ∧ first ≤ 64 := oM
 obtain ⟨ab8, ab7⟩ := Sw
 have US := iD Du
 have uM := iD cB
 clear h dc hE qc Du cB k1 k8 hw hN hs hv Ds Bc hX e1 e2 e3 fB
 go_enter func12, ntmps12
 go_wp2_with (fail)
 try rw [hW]
 clear hW
 refine (HR W).mono ?_
 rintro e w1 ⟨rfl, hb⟩
 have iH := iD (HO.ab hb)
 have H6 : Hid (∀ w9, bW w1 w9 → (w9.cell? ⟨w.heap.size, 0, none⟩ = some (.slice A n1 c) ∧ w9.cell? ⟨w.heap.size, 1, none⟩ = some (.int .i64 g.pg) ∧ w9.cell? ⟨w.heap.size, 2, none⟩ = some (.slice B n2 d) ∧ w9.cell? ⟨w.heap.size, 3, none⟩ = some (.bool false) ∧ w9.cell? ⟨w.heap.size, 4, none⟩ = some (.int .i64 g.be) ∧ w9.cell? ⟨w.heap.size, 5, none⟩ = some (.slice P n3 r))) := fun w9 hb => by
  obtain ⟨z0, z1, z2, z3, z4, z5, -⟩ := (iH.ab hb).iI
  exact ⟨z0, z1, z2, z3, z4, z5⟩
 have pa : Hid (∀ W, bW w1 W → Calls prog 25 #[.agg #[.slice A n1 c, .int .i64 g.pg, .slice B n2 d, .bool false, .int .i64 g.be, .slice P n3 r], .int .i64 aa] W fun e w' => e = .returned (.int .i64 (N : Int)) ∧ bW w1 w' ∧ bW W w') := fun W hb => (AH W).mono (fun e w' ⟨he, dZ⟩ => ⟨he, hb.trans (dZ.mono hb.size), dZ⟩)
 have AI : Hid (∀ W, bW w1 W → Calls prog 31 #[.int .i64 (N : Int)] W fun e w' => ∃ A c, e = .returned (.slice A 9 c) ∧ 9 ≤ c ∧ c ≤ maxLen ∧ Rd w' w'.heap.size A (bK (aH N)) ∧ bW w1 w' ∧ bW W w') := fun W hb => (FX N oM W).mono (fun e w' ⟨A, c, he, h1, h2, h3, dZ⟩ => ⟨A, c, he, h1, h2, h3, hb.trans (dZ.mono hb.size), dZ⟩)
 have uI : Hid (∀ w3, bW w1 w3 → ∀ W, bW w3 W → ∀ A' c', Rd w3 w3.heap.size A' (bK (aH N)) → 9 ≤ c' → c' ≤ maxLen → Calls prog 30 #[.agg #[.slice A n1 c, .int .i64 g.pg, .slice B n2 d, .bool false, .int .i64 g.be, .slice P n3 r], .int .i64 first, .int .i64 2, .slice A' 9 c'] W fun e w' => ∃ q : Qv, e = .returned (.tuple #[q.v s, .int .i64 0]) ∧ bW w1 w' ∧ ic (XW X w.heap.size W.heap.size) w' q s g.pg ∧ bW W w') := fun w3 gL W hbx A' c' h1 h2 h3 =>
  have hb := gL.trans (hbx.mono gL.size)
  (Fy W (iH.below.trans (hb.mono iH.below.size)) A' c' ((h1.below hbx cV).more hbx.size) h2 h3).mono (fun e w' ⟨q, he, dZ, h4⟩ => ⟨q, he, hb.trans (dZ.mono hb.size), h4, dZ⟩)
 clear hb d0 d1 d2 d3 d4 d5
 have abS : w.heap.size + 1 < w1.heap.size := by
  obtain ⟨dX, _, h2⟩ := iH.h6
  exact (Array.getElem?_eq_some_iff.1 h2).1
 have kb : bW w1 w1.drew := Below.drew bV
 have k2 := H6 w1.drew kb
 have ksz : w1.drew.heap.size = w1.heap.size := rfl
 obtain ⟨d0, d1, d2, d3, d4, d5⟩ := H6 w1 bV
 go_wp2_with (fail)
 go_region_held3 (fun w9 => w9.cell? ⟨w.heap.size, 0, none⟩ = some (.slice A n1 c) ∧ w9.cell? ⟨w.heap.size, 1, none⟩ = some (.int .i64 g.pg) ∧ w9.cell? ⟨w.heap.size, 2, none⟩ = some (.slice B n2 d) ∧ w9.cell? ⟨w.heap.size, 3, none⟩ = some (.bool false) ∧ w9.cell? ⟨w.heap.size, 4, none⟩ = some (.int .i64 g.be) ∧ w9.cell? ⟨w.heap.size, 5, none⟩ = some (.slice P n3 r)) (first | with_reducible exact H6.out _ dZ | with_reducible exact H6.out _ gL | with_reducible exact H6.out _ iT | with_reducible exact k2 | with_reducible exact H6.out _ (iT.alloc iT.size _) | with_reducible exact H6.out _ (gL.alloc gL.size _) | with_reducible exact H6.out _ (dZ.alloc dZ.size _) | with_reducible exact H6.out _ (jD iT gL.size _ _ _ _ _ _ _ _ _ _ _ _ _ _ _) | with_reducible exact H6.out _ (jD iT dZ.size _ _ _ _ _ _ _ _ _ _ _ _ _ _ _) | with_reducible exact H6.out _ (jD iT cV _ _ _ _ _ _ _ _ _ _ _ _ _ _ _) | with_reducible exact H6.out _ (jD (iT.alloc iT.size _) iT.size _ _ _ _ _ _ _ _ _ _ _ _ _ _ _) | with_reducible exact H6.out _ (Below.drew (bV.alloc cV _)) | (fail)) (first
  | (go_at_call 25; with_reducible refine (pa.out _ (by first | with_reducible exact kb | with_reducible exact Below.drew (bV.alloc cV _))).mono ?_; rintro e w2 ⟨rfl, dZ, yL⟩; (first | (with_reducible refine carry (vz yL) ?_; intro oF) | skip))
  | (go_at_call 31; with_reducible refine (AI.out _ (by first | exact dZ | exact dZ.alloc dZ.size _)).mono ?_; rintro e w3 ⟨A3, c3, rfl, mB, sT, Eu, gL, Ub⟩; (first | (with_reducible refine carry (sC Ub) ?_; intro Ok) | (with_reducible refine carry (zu Ub oF) ?_; intro Ok) | skip))
  | (go_at_call 30; with_reducible refine (uI.out w3 gL _ (by first | exact Below.refl _ _ | exact bV.alloc cV _) A3 c3 Eu mB sT).mono ?_; rintro e w4 ⟨q, rfl, iT, hq, Ua⟩; (first | (with_reducible refine Ke (sC Ua) ?_; intro y0 y1 y2 y3 y4 y5 y6 y7 y8 y9 PV TW AT TV TU yf) | (with_reducible refine Ke (zu Ua Ok) ?_; intro y0 y1 y2 y3 y4 y5 y6 y7 y8 y9 PV TW AT TV TU yf) | skip))
  )
 focus
  obtain ⟨WZ, qY⟩ := ex (w4.alloc (.cells (UC q s (.slice q.Q1 s.ax.length q.c1) (.slice q.Q2 s.aj.length q.c2) (.slice q.Q3 9 q.c3) s.af) 43))
  obtain ⟨B5, oZ⟩ := ex w4.heap.size
  have Da : Hid (WZ.heap[B5]? = some (.cells (UC q s (.slice q.Q1 s.ax.length q.c1) (.slice q.Q2 s.aj.length q.c2) (.slice q.Q3 9 q.c3) s.af) 43 (0, 0))) := by rw [Hid, ← qY, ← oZ]; exact heap_alloc_new _ _
  have kZ : Hid (bW w1 WZ) := by rw [← qY]; exact iT.alloc iT.size _
  have UG : Hid (ic (fun b => X b ∨ b = w.heap.size + 1) WZ q s g.pg) := by rw [← qY]; exact (hq.cX (fun b hb => hb.elim .inl (fun e => .inr ⟨oM, by have := gL.size; omega⟩))).below (bV.alloc cV _)
  rw [qY, oZ]
  clear qY oZ
 rotate_left
 focus
  have tW := sC Ua
  have Cm : w1.heap.size ≤ w3.heap.size := gL.size
  obtain ⟨WZ, qY⟩ := ex (pA w4 w3.heap.size (.int .i64 s.first) (.int .i64 s.aa) (.slice q.Q1 s.ax.length q.c1) (.slice q.Q2 s.aj.length q.c2) (.slice q.Q3 9 q.c3) (.int .i64 s.seq) (.int .i64 s.block) (.int .i64 s.av) (.slice q.Q4 q.n4 q.c4) (.slice q.Q5 q.n5 q.c5) (.int .i64 q.pg) (.int .i64 q.er) (.int .i64 q.nb) (.int .i64 q.ns) (.bool s.af))
  have Da : Hid (WZ.heap[w3.heap.size]? = some (.cells (UC q s (.slice q.Q1 s.ax.length q.c1) (.slice q.Q2 s.aj.length q.c2) (.slice q.Q3 9 q.c3) s.af) 43 (0, 0))) := by rw [← qY]; exact sD tW ..
  have kZ : Hid (bW w1 WZ) := by rw [← qY]; exact nH iT Cm ..
  have UG : Hid (ic (fun b => X b ∨ b = w.heap.size + 1) WZ q s g.pg) := by
   rw [← qY]
   refine (hq.ao ((pQ ..).more (fun b hb => .inr ?_))).cX (fun b hb => hb.elim .inl (fun e => .inr ⟨oM, by rw [World.size_alloc]; have := gL.size; omega⟩))
   have h1 := iH.below.size
   subst hb
   refine ⟨oM, ?_⟩
   rw [World.size_alloc]; omega
  unfold pA at qY
  obtain ⟨B5, oZ⟩ := ex w3.heap.size
  rw [oZ] at qY Da ⊢
  rw [qY]
  clear qY oZ tW Cm y0 y1 y2 y3 y4 y5 y6 y7 y8 y9 PV TW AT TV TU yf
 rotate_left
 focus
  have tW := zu Ua Ok
  have Cm : w1.heap.size ≤ w2.heap.size := dZ.size
  obtain ⟨WZ, qY⟩ := ex (pA w4 w2.heap.size (.int .i64 s.first) (.int .i64 s.aa) (.slice q.Q1 s.ax.length q.c1) (.slice q.Q2 s.aj.length q.c2) (.slice q.Q3 9 q.c3) (.int .i64 s.seq) (.int .i64 s.block) (.int .i64 s.av) (.slice q.Q4 q.n4 q.c4) (.slice q.Q5 q.n5 q.c5) (.int .i64 q.pg) (.int .i64 q.er) (.int .i64 q.nb) (.int .i64 q.ns) (.bool s.af))
  have Da : Hid (WZ.heap[w2.heap.size]? = some (.cells (UC q s (.slice q.Q1 s.ax.length q.c1) (.slice q.Q2 s.aj.length q.c2) (.slice q.Q3 9 q.c3) s.af) 43 (0, 0))) := by rw [← qY]; exact sD tW ..
  have kZ : Hid (bW w1 WZ) := by rw [← qY]; exact nH iT Cm ..
  have UG : Hid (ic (fun b => X b ∨ b = w.heap.size + 1) WZ q s g.pg) := by
   rw [← qY]
   refine (hq.ao ((pQ ..).more (fun b hb => .inr ?_))).cX (fun b hb => hb.elim .inl (fun e => .inr ⟨oM, by have h2 := Ub.size; rw [World.size_alloc] at h2; have h3 := dZ.size; omega⟩))
   have h1 := iH.below.size
   subst hb
   refine ⟨oM, ?_⟩
   have h2 := Ub.size; rw [World.size_alloc] at h2; have h3 := gL.size; omega
  unfold pA at qY
  obtain ⟨B5, oZ⟩ := ex w2.heap.size
  rw [oZ] at qY Da ⊢
  rw [qY]
  clear qY oZ tW Cm y0 y1 y2 y3 y4 y5 y6 y7 y8 y9 PV TW AT TV TU yf
 rotate_left
 focus
  have tW := zu Ua Ok
  have Cm : w1.heap.size ≤ w1.heap.size := Nat.le_refl _
  obtain ⟨WZ, qY⟩ := ex (pA w4 w1.heap.size (.int .i64 s.first) (.int .i64 s.aa) (.slice q.Q1 s.ax.length q.c1) (.slice q.Q2 s.aj.length q.c2) (.slice q.Q3 9 q.c3) (.int .i64 s.seq) (.int .i64 s.block) (.int .i64 s.av) (.slice q.Q4 q.n4 q.c4) (.slice q.Q5 q.n5 q.c5) (.int .i64 q.pg) (.int .i64 q.er) (.int .i64 q.nb) (.int .i64 q.ns) (.bool s.af))
  have Da : Hid (WZ.heap[w1.heap.size]? = some (.cells (UC q s (.slice q.Q1 s.ax.length q.c1) (.slice q.Q2 s.aj.length q.c2) (.slice q.Q3 9 q.c3) s.af) 43 (0, 0))) := by rw [← qY]; exact sD tW ..
  have kZ : Hid (bW w1 WZ) := by rw [← qY]; exact nH iT Cm ..
  have UG : Hid (ic (fun b => X b ∨ b = w.heap.size + 1) WZ q s g.pg) := by
   rw [← qY]
   refine (hq.ao ((pQ ..).more (fun b hb => .inr ?_))).cX (fun b hb => hb.elim .inl (fun e => .inr ⟨oM, by have h4 := gL.size; omega⟩))
   have h1 := iH.below.size
   subst hb
   refine ⟨oM, ?_⟩
   have h2 := yL.size; have h3 : w1.heap.size < w2.heap.size := by have : (w1.alloc (.cells #[.int .i64 0, .int .i64 0, .slice none 0 0, .slice none 0 0, .slice none 0 0, .int .i64 0, .int .i64 0, .int .i64 0, .slice none 0 0, .slice none 0 0, .int .i64 0, .int .i64 0, .int .i64 0, .int .i64 0, .bool false] 43)).drew.heap.size = w1.heap.size + 1 := (World.size_alloc ..); omega
   have h4 := Ub.size
   omega
  unfold pA at qY
  obtain ⟨B5, oZ⟩ := ex w1.heap.size
  rw [oZ] at qY Da ⊢
  rw [qY]
  clear qY oZ tW Cm y0 y1 y2 y3 y4 y5 y6 y7 y8 y9 PV TW AT TV TU yf
 rotate_left
 all_goals
  have UM := iD (iH.ab kZ)
  obtain ⟨b9, o9, tY, eI⟩ : ∃ b o, q.Q3 = some ⟨b, o, none⟩ ∧ ∀ j u, (aw s.an)[j]? = some u → WZ.cell? ⟨b, o + j, none⟩ = some u := by
   obtain ⟨b, o, e, aW, _, hc⟩ := UG.c (by rw [xV]; simp [aw])
   exact ⟨b, o, e, hc⟩
  obtain ⟨z, hz⟩ := ex (s.an[4 + 3 * va]?.getD 0)
  have HZ := iD hz
  have c0' : WZ.cell? ⟨b9, o9, none⟩ = some (.int .i64 (va : Int)) := eI 0 _ (by rw [xV]; rfl)
  have c4' : WZ.cell? ⟨b9, o9 + (4 + 3 * va), none⟩ = some (.int .i64 z) := eI _ _ (by
   rw [← hz]
   unfold aw
   rw [List.getElem?_map, List.getElem?_eq_getElem oM]
   rfl)
  have y4 : WZ.cell? ⟨B5, 4, none⟩ = some (.slice (some ⟨b9, o9, none⟩) 9 q.c3) := (cell_of_row WZ B5 4 _ 43 (0, 0) Da).trans (by rw [tY]; rfl)
  have XM := iD tY
  clear tY
  have q1 : IntKind.i64.wrap (3 * (va : Int)) = 3 * (va : Int) := IntWalk.i64_in _ oM
  have q2 : IntKind.i64.wrap (4 + 3 * (va : Int)) = 4 + 3 * (va : Int) := IntWalk.i64_in _ oM
  have k0 : (0 : Int) ≤ 4 + 3 * (va : Int) := oM
  have k1 : 4 + 3 * (va : Int) < 9 := oM
  have k2 : (4 + 3 * (va : Int)).toNat = 4 + 3 * va := oM
  clear dZ yL gL Ub iT hq Ua Eu mB sT d0 d1 d2 d3 d4 d5 eI hz kb ksz
  by_cases uz : z = 0
  ·have P7 : (z == 0) = true := by simpa using uz
   have Yn : Hid (dR g first aa = 12) := by rw [Hid, Yi, HZ, iP uz]
   subst uz
   obtain ⟨dX, ng, lR⟩ := UM.h6
   go_upto_region 7 with (fail)
   go_quiet (fail)
   go_upto_region 8 with (fail)
   refine wp_region_list ?_
   refine jt rfl 45 #[] rfl [] (by simp) eF GI ?_
   refine wpList_store_row rfl 45 _ _ rfl (w.heap.size + 1) eF rfl rfl 45 dX lR sx (ng.trans rfl) zI ?_
   go_wp2
   (try simp only [Exit.inBlock, Exit.then])
   refine bodyPost_ret (v := .tuple #[.agg eF, .int .i64 12]) (cN (p := 6) (u := 7) rfl _ _ (w.heap.size + 1) 45 eF (0, 0) _ rfl (by exact setRow_heap _ _ dX _ 45 (0, 0) lR) underlying45 rfl sx) rfl ⟨.agg eF, by rw [Yn], by first | exact below_setRow UM.below (Nat.le_succ _) _ | exact below_setRow (Below.drewN UM.below _) (Nat.le_succ _) _, fun _ => rfl, fun e => by rw [Yn] at e; cases e⟩
  have P7 : (z == 0) = false := by simpa using uz
  have PL : Hid (dR g first aa = 0) := by rw [Hid, Yi, HZ, iN uz]
  clear uz
  obtain ⟨dX, ng, lR⟩ := UM.h6
  go_upto_region 7 with (fail)
  go_quiet (fail)
  go_upto_region 9 with (fail)
  refine wp_region_list ?_
  refine mF (v := .int .i64 first) rfl (by rfl) ?_
  refine mF (v := .int .i64 aa) rfl (by rfl) ?_
  refine wpList_load_row rfl 43 _ rfl B5 rfl 43 _ (0, 0) _ Da underlying43 rfl aP ?_
  refine jt rfl 45 _ rfl [(0, .int .i64 first), (1, .int .i64 aa), (2, .agg (UC q s (.slice q.Q1 s.ax.length q.c1) (.slice q.Q2 s.aj.length q.c2) (.slice q.Q3 9 q.c3) s.af)), (3, .int .i64 2)] (by simp [Act.eval, Act.put]) _ (Ml _ _ _ _ _ _ _ _ _ _ _ _ _ _ _ _ _ _) ?_
  refine wpList_store_row rfl 45 _ _ rfl (w.heap.size + 1) #[.int .i64 first, .int .i64 aa, .int .i64 s.first, .int .i64 s.aa, .slice q.Q1 s.ax.length q.c1, .slice q.Q2 s.aj.length q.c2, .slice q.Q3 9 q.c3, .int .i64 s.seq, .int .i64 s.block, .int .i64 s.av, .slice q.Q4 q.n4 q.c4, .slice q.Q5 q.n5 q.c5, .int .i64 q.pg, .int .i64 q.er, .int .i64 q.nb, .int .i64 q.ns, .bool s.af, .int .i64 2, .bool false, .bool false, .int .i64 0, .int .i64 0, .int .i64 0, .int .i64 0, .slice none 0 0, .slice none 0 0] rfl rfl 45 dX lR sx (ng.trans rfl) (Vj ..) ?_
  go_wp2
  (try simp only [Exit.inBlock, Exit.then])
  refine bodyPost_ret (v := .tuple #[.agg #[.int .i64 first, .int .i64 aa, .int .i64 s.first, .int .i64 s.aa, .slice q.Q1 s.ax.length q.c1, .slice q.Q2 s.aj.length q.c2, .slice q.Q3 9 q.c3, .int .i64 s.seq, .int .i64 s.block, .int .i64 s.av, .slice q.Q4 q.n4 q.c4, .slice q.Q5 q.n5 q.c5, .int .i64 q.pg, .int .i64 q.er, .int .i64 q.nb, .int .i64 q.ns, .bool s.af, .int .i64 2, .bool false, .bool false, .int .i64 0, .int .i64 0, .int .i64 0, .int .i64 0, .slice none 0 0, .slice none 0 0], .int .i64 0]) (cN (p := 6) (u := 7) rfl _ _ (w.heap.size + 1) 45 #[.int .i64 first, .int .i64 aa, .int .i64 s.first, .int .i64 s.aa, .slice q.Q1 s.ax.length q.c1, .slice q.Q2 s.aj.length q.c2, .slice q.Q3 9 q.c3, .int .i64 s.seq, .int .i64 s.block, .int .i64 s.av, .slice q.Q4 q.n4 q.c4, .slice q.Q5 q.n5 q.c5, .int .i64 q.pg, .int .i64 q.er, .int .i64 q.nb, .int .i64 q.ns, .bool s.af, .int .i64 2, .bool false, .bool false, .int .i64 0, .int .i64 0, .int .i64 0, .int .i64 0, .slice none 0 0, .slice none 0 0] (0, 0) _ rfl (by exact setRow_heap _ _ dX _ 45 (0, 0) lR) underlying45 rfl sx) rfl ⟨_, by rw [PL], by first | exact below_setRow UM.below (Nat.le_succ _) _ | exact below_setRow (Below.drewN UM.below _) (Nat.le_succ _) _, fun e => absurd PL.out e, fun _ => ⟨⟨q, none, 0, 0, none, 0, 0⟩, ?_, rfl, rfl, rfl, rfl, rfl, rfl, ?_⟩⟩
  ·rw [Yg, US, uM, ← aac]
   rfl
  rw [Yg]
  have hk := fun cs nq => (UG.ao ((ah.ak (X := fun b => X b ∨ b = w.heap.size + 1) (Below.drewN (Below.refl WZ.heap.size WZ) nq)).trans (ah.row (WZ.drewN nq) (w.heap.size + 1) cs (.inr rfl)))).cX (Y := X) (fun b hb => .inl hb)
  exact hk _ _
theorem FZ (h : cf X w x g) (hX : ∀ b, X b → b < w.heap.size) (first aa : Int) (Cr : dH first) (dB : dH aa) :
 Calls prog 12 #[x.v g, .int .i64 first, .int .i64 aa] w (RFO X w g first aa) := by
 by_cases hE : eC g first aa = 0
 ·exact D1 h hX first aa hE
 exact D0 h first aa Cr dB hE
theorem gE (h : C.size = 26) : (prog.info? 45).map (·.size) = some C.size := by
 rw [h]
 kernel_rfl
theorem yg (h : C.size = 15) : (prog.info? 43).map (·.size) = some C.size := by
 rw [h]
 kernel_rfl
theorem pv (h : C.size = 6) : (prog.info? 35).map (·.size) = some C.size := by
 rw [h]
 kernel_rfl
def FT (C : Array Value) (o : Nat) (S : List Value) : Array Value := (C.toList.take o ++ S ++ C.toList.drop (o + S.length)).toArray
theorem World.aaR (h : w.heap = w'.heap) (e : { w with heap := w'.heap } = w') : w = w' := by
 rw [← e, ← h]
theorem setRow_setRow (w : World) (g : Nat) (a b : Array Value) : (w.setRow g a).setRow g b = w.setRow g b := by
 unfold World.setRow
 congr 1
 apply Array.ext_getElem?
 intro i
 simp only [Array.getElem?_modify]
 by_cases h : g = i
 ·subst h
  simp only [iP, Option.map_map]
  congr 1
  funext o
  cases o <;> rfl
 simp only [iN h]
theorem lz {g : Nat} {fr : Nat × Nat} (h : w.heap[g]? = some (.cells C t fr)) (j : Nat) (v : Value) : w.setCell ⟨g, j, none⟩ v = w.setRow g (C.setIfInBounds j v) := by
 unfold World.setCell World.setRow
 congr 1
 apply Array.ext_getElem?
 intro i
 simp only [Array.getElem?_modify]
 by_cases hi : g = i
 ·subst hi
  rw [h]
  rfl
 simp only [iN hi]
theorem BE {g : Nat} {fr : Nat × Nat} (h : w.heap[g]? = some (.cells C t fr)) : w.setRow g C = w := by
 have e : (w.setRow g C).heap = w.heap := by
  unfold World.setRow
  apply Array.ext_getElem?
  intro i
  simp only [Array.getElem?_modify]
  by_cases hi : g = i
  ·subst hi
   rw [h, iP rfl]
   rfl
  simp only [iN hi]
 exact World.aaR e rfl
theorem FR {o : Nat} {S : List Value} (h : o + S.length ≤ C.size) (i : Nat) : (FT C o S)[i]? = if i < o then C[i]? else if i < o + S.length then S[i - o]? else C[i]? := by
 have hl : C.toList.length = C.size := Array.length_toList
 unfold FT
 rw [List.getElem?_toArray, ← Array.getElem?_toList]
 by_cases h1 : i < o
 ·rw [iP h1, List.append_assoc, List.getElem?_append_left (by rw [List.length_take]; omega), List.getElem?_take, iP h1]
 rw [iN h1]
 by_cases h2 : i < o + S.length
 ·rw [iP h2, List.append_assoc, List.getElem?_append_right (by rw [List.length_take]; omega), List.getElem?_append_left (by rw [List.length_take]; omega), List.length_take]
  congr 1
  omega
 rw [iN h2, List.getElem?_append_right (by rw [List.length_append, List.length_take]; omega), List.getElem?_drop, List.length_append, List.length_take]
 congr 1
 omega
theorem iM : ∀ (S : List Value) {w : World} {g : Nat} {C : Array Value} {t : TypeId} {fr : Nat × Nat} (h : w.heap[g]? = some (.cells C t fr)) (o : Nat), o + S.length ≤ C.size → w.setCells g o S = w.setRow g (FT C o S)
 | [], w, g, C, t, fr, h, o, ho => by
  have e : FT C o [] = C := by
   unfold FT
   simp
  rw [e, BE h]
  rfl
 | v :: S, w, g, C, t, fr, h, o, ho => by
  simp only [List.length_cons] at ho
  show (w.setCell ⟨g, o, none⟩ v).setCells g (o + 1) S = _
  have hz : o + 1 + S.length ≤ (C.setIfInBounds o v).size := by rw [Array.size_setIfInBounds]; omega
  rw [lz h, iM S (setRow_heap w g C _ t fr h) (o + 1) hz, setRow_setRow]
  congr 1
  apply Array.ext_getElem?
  intro i
  rw [FR hz, FR (S := v :: S) (by simp only [List.length_cons]; omega), List.length_cons]
  simp only [Array.getElem?_setIfInBounds]
  rcases Nat.lt_trichotomy i o with h1 | h1 | h1
  ·rw [iP oM, iN oM, iP h1]
  ·subst h1
   rw [iP oM, iP rfl, iP oM, iN oM, iP oM, Nat.sub_self]
   rfl
  rw [iN oM, iN (show ¬ i < o by omega), iN (show ¬ o = i by omega)]
  by_cases hs : i < o + 1 + S.length
  ·rw [iP hs, iP oM, show i - o = (i - (o + 1)) + 1 by omega, List.getElem?_cons_succ]
  rw [iN hs, iN oM]
section
variable {ops : Array Oper} {rest : List Oper} {o : Oper} {a : Go.Act} {w : World} {Q : Exit → Go.Act → World → Prop}
theorem Z4 (nz : o.guard = none) (x : Operand) (ho : o.op = .load 45 x) (g : Nat) (hx : a.eval x = .pointer (some ⟨g, 0, none⟩)) (C : Array Value) (hg : w.heap[g]? = some (.cells C 45 (0, 0))) (hs : C.size = 26)
 (h : wpList prog ops Q rest (a.put o.dst (.agg C)) w) : wpList prog ops Q (o :: rest) a w :=
 wpList_load_row nz 45 x ho g hx 45 C (0, 0) _ hg underlying45 rfl (gE hs) h
theorem Z5 (nz : o.guard = none) (x : Operand) (ho : o.op = .load 35 x) (g : Nat) (hx : a.eval x = .pointer (some ⟨g, 0, none⟩)) (C : Array Value) (hg : w.heap[g]? = some (.cells C 35 (0, 0))) (hs : C.size = 6)
 (h : wpList prog ops Q rest (a.put o.dst (.agg C)) w) : wpList prog ops Q (o :: rest) a w :=
 wpList_load_row nz 35 x ho g hx 35 C (0, 0) _ hg underlying35 rfl (pv hs) h
theorem Ig (nz : o.guard = none) (x : Operand) (ho : o.op = .load 43 x) (g : Nat) (hx : a.eval x = .pointer (some ⟨g, 2, none⟩)) (C S : Array Value) (hg : w.heap[g]? = some (.cells C 45 (0, 0))) (hS : C.extract 2 17 = S) (hs : S.size = 15)
 (h : wpList prog ops Q rest (a.put o.dst (.agg S)) w) : wpList prog ops Q (o :: rest) a w := by
 have hr := World.rangeAt_of_block hg 2 15
 rw [show 2 + 15 = 17 from rfl, hS] at hr
 refine wpList_load_mid nz 43 x ho g 2 hx S.toList _ hr underlying43 rfl (by rw [Array.length_toList]; exact yg hs) ?_
 rw [Array.toArray_toList]
 exact h
theorem Va (nz : o.guard = none) (x y : Operand) (ho : o.op = .store 45 x y) (hd : o.dst = none) (g : Nat) (C : Array Value) (hx : a.eval x = .pointer (some ⟨g, 0, none⟩)) (hy : a.eval y = .agg C) (dX : Array Value) (hg : w.heap[g]? = some (.cells dX 45 (0, 0))) (hs : C.size = 26) (hold : dX.size = 26) (h1 : C.all (·.oneCell') = true)
 (h : wpList prog ops Q rest a (w.setRow g C)) : wpList prog ops Q (o :: rest) a w :=
 wpList_store_rowTo nz 45 x y ho hd g C hx hy 45 dX hg (gE hs) (hold.trans hs.symm) h1 h
theorem RA (nz : o.guard = none) (x y : Operand) (ho : o.op = .store 35 x y) (hd : o.dst = none) (g : Nat) (C : Array Value) (hx : a.eval x = .pointer (some ⟨g, 0, none⟩)) (hy : a.eval y = .agg C) (dX : Array Value) (hg : w.heap[g]? = some (.cells dX 35 (0, 0))) (hs : C.size = 6) (hold : dX.size = 6) (h1 : C.all (·.oneCell') = true)
 (h : wpList prog ops Q rest a (w.setRow g C)) : wpList prog ops Q (o :: rest) a w :=
 wpList_store_rowTo nz 35 x y ho hd g C hx hy 35 dX hg (pv hs) (hold.trans hs.symm) h1 h
theorem Hf (nz : o.guard = none) (x y : Operand) (ho : o.op = .store 43 x y) (hd : o.dst = none) (g : Nat) (S : Array Value) (hx : a.eval x = .pointer (some ⟨g, 2, none⟩)) (hy : a.eval y = .agg S) (dX C : Array Value) (hg : w.heap[g]? = some (.cells dX 45 (0, 0))) (hs : S.size = 15) (hold : dX.size = 26) (h1 : S.all (·.oneCell') = true) (hC : FT dX 2 S.toList = C)
 (h : wpList prog ops Q rest a (w.setRow g C)) : wpList prog ops Q (o :: rest) a w := by
 have hl : S.toList.length = 15 := by rw [Array.length_toList]; exact hs
 refine wpList_store_mid nz 43 x y ho g 2 S hx hy (fun j hj => ?_) (yg hs) h1 ?_
 ·rw [cell_of_row w g (2 + j) dX 45 (0, 0) hg, Array.getElem?_eq_getElem oM]
  exact ⟨rfl, frozen_of_row w g (2 + j) dX 45 hg⟩
 rw [hd, iM S.toList hg 2 oM, hC]
 exact h
end
section
variable {ops : Array Oper} {op : Oper} {a : Go.Act} {S : World → Prop}
theorem ZK (hw : Region.wanted op (yielded ops a.tmps) = true) (x : Operand) (ho : op.op = .load 45 x) (g : Nat) (hx : a.eval x = .pointer (some ⟨g, 0, none⟩)) (C : Array Value) (hS : ∀ w, S w → w.heap[g]? = some (.cells C 45 (0, 0))) (hs : C.size = 26) : YieldsIf prog ops S op (.agg C) a :=
 bF hw 45 x ho g hx 45 C (0, 0) _ hS underlying45 rfl (gE hs)
theorem ZL (hw : Region.wanted op (yielded ops a.tmps) = true) (x : Operand) (ho : op.op = .load 35 x) (g : Nat) (hx : a.eval x = .pointer (some ⟨g, 0, none⟩)) (C : Array Value) (hS : ∀ w, S w → w.heap[g]? = some (.cells C 35 (0, 0))) (hs : C.size = 6) : YieldsIf prog ops S op (.agg C) a :=
 bF hw 35 x ho g hx 35 C (0, 0) _ hS underlying35 rfl (pv hs)
theorem YB {ty : TypeId} (hw : Region.wanted op (yielded ops a.tmps) = true) (x : Operand) (ho : op.op = .load ty x) (g j : Nat) (hx : a.eval x = .pointer (some ⟨g, j, none⟩)) (v : Value) (hS : ∀ w, S w → (Instr.loadAt ty (.pointer (some ⟨g, j, none⟩))).run prog w = .ok v w) : YieldsIf prog ops S op v a :=
 .inl ⟨hw, fun w hw' => by
  unfold execOp
  simp only [ho, hx, hS w hw', Sem.run_bind, Sem.run_pure, Result.andThen_ok]⟩
theorem yv {v : Value} (hw : Region.wanted op (yielded ops a.tmps) = true) (he : ∀ w, (execOp a.eval op).run prog w = .ok (.value v) w) : YieldsIf prog ops S op v a := .inl ⟨hw, fun w _ => he w⟩
end
theorem ZR {g : Nat} {v : Value} (hc : w.cell? ⟨g, j, none⟩ = some v) : (Instr.loadAt 3 (.pointer (some ⟨g, j, none⟩))).run prog w = .ok v w := by go_simp
theorem zx {p' v : Tmp} {ty AU : TypeId} (h : fn.results = #[.cell p ty, .cell p' AU, .tmp u, .tmp v]) (tmps : Array Value) (w : World) (g g' : Nat) (t t' : TypeId) (cs cs' : Array Value) (d d' : TypeDesc) 
 (hp : tmps.getD p undef = .pointer (some ⟨g, 0, none⟩)) (Nf : tmps.getD p' undef = .pointer (some ⟨g', 0, none⟩)) (hg : w.heap[g]? = some (.cells cs t (0, 0))) (dr : w.heap[g']? = some (.cells cs' t' (0, 0)))
 (hu : P.underlying ty = some d) (hd : (match d with | .struct _ | .array _ _ => true | _ => false) = true) (hi : (P.info? ty).map (·.size) = some cs.size)
 (pY : P.underlying AU = some d') (kX : (match d' with | .struct _ | .array _ _ => true | _ => false) = true) (Co : (P.info? AU).map (·.size) = some cs'.size) :
 (results fn tmps).run P w = .ok (.tuple #[.agg cs, .agg cs', tmps.getD u undef, tmps.getD v undef]) w := by
 have e1 := run_loadVar_row (P := P) w g t ty cs (0, 0) d hg hu hd hi
 have e2 := run_loadVar_row (P := P) w g' t' AU cs' (0, 0) d' dr pY kX Co
 simp only [Array.getD_eq_getD_getElem?] at hp Nf
 simp [results, h, Sem.run_bind, hp, Nf, asAddr, e1, e2]
structure Fr (w wr : World) (l : List (Array Value × TypeId)) : Prop where
 below : bW w wr
 len : w.heap.size + l.length ≤ wr.heap.size
 row : ∀ i C t, l[i]? = some (C, t) → wr.heap[w.heap.size + i]? = some (.cells C t (0, 0))
section
variable {w wr w' : World} {l : List (Array Value × TypeId)}
theorem Fr.push (h : Fr w wr l) (hs : wr.heap.size = w.heap.size + l.length) (C : Array Value) (t : TypeId) : Fr w (wr.alloc (.cells C t)) (l ++ [(C, t)]) ∧ (wr.alloc (.cells C t)).heap.size = w.heap.size + (l ++ [(C, t)]).length := by
 have e : (wr.alloc (.cells C t)).heap.size = wr.heap.size + 1 := Array.size_push _
 refine ⟨⟨h.below.alloc h.below.size _, by rw [e, List.length_append]; simp; omega, fun i D u hi => ?_⟩, by rw [e, List.length_append]; simp; omega⟩
 by_cases hl : i < l.length
 ·rw [List.getElem?_append_left hl] at hi
  rw [Below.heap_alloc wr _ _ oM]
  exact h.row i D u hi
 rw [List.getElem?_append_right oM] at hi
 have h0 : i - l.length = 0 := by
  have := (List.getElem?_eq_some_iff.1 hi).1
  simp at this
  omega
 rw [h0] at hi
 simp only [List.getElem?_cons_zero, Option.some.injEq, Prod.mk.injEq] at hi
 obtain ⟨rfl, rfl⟩ := hi
 rw [show w.heap.size + i = wr.heap.size by omega]
 exact heap_alloc_new wr _
theorem Fr.nil (w : World) : Fr w w [] := ⟨Below.refl _ _, Nat.le_refl _, fun i C t h => by simp at h⟩
theorem Fr.one {a : TypeId} (h : w.alloc (.cells A a) = wr) : Fr w wr [(A, a)] := by
 obtain ⟨h1, s1⟩ := (Fr.nil w).push rfl A a
 rw [← h]
 exact h1
theorem Fr.two {B : Array Value} {a : TypeId} (h : (w.alloc (.cells A a)).alloc (.cells B b) = wr) : Fr w wr [(A, a), (B, b)] := by
 obtain ⟨h1, s1⟩ := (Fr.nil w).push rfl A a
 obtain ⟨h2, s2⟩ := h1.push s1 B b
 rw [← h]
 exact h2
theorem Fr.three {B : Array Value} {a c : TypeId} (h : ((w.alloc (.cells A a)).alloc (.cells B b)).alloc (.cells C c) = wr) : Fr w wr [(A, a), (B, b), (C, c)] := by
 obtain ⟨h1, s1⟩ := (Fr.nil w).push rfl A a
 obtain ⟨h2, s2⟩ := h1.push s1 B b
 obtain ⟨h3, s3⟩ := h2.push s2 C c
 rw [← h]
 exact h3
theorem Fr.four {B : Array Value} {a c d : TypeId} (h : (((w.alloc (.cells A a)).alloc (.cells B b)).alloc (.cells C c)).alloc (.cells D d) = wr) : Fr w wr [(A, a), (B, b), (C, c), (D, d)] := by
 obtain ⟨h1, s1⟩ := (Fr.nil w).push rfl A a
 obtain ⟨h2, s2⟩ := h1.push s1 B b
 obtain ⟨h3, s3⟩ := h2.push s2 C c
 obtain ⟨h4, s4⟩ := h3.push s3 D d
 rw [← h]
 exact h4
theorem Fr.lt (h : Fr w wr l) (hi : l[i]? = some (C, t)) : w.heap.size + i < wr.heap.size := (Array.getElem?_eq_some_iff.1 (h.row i C t hi)).1
theorem Fr.ab (h : Fr w wr l) (hb : bW wr w') : Fr w w' l :=
 ⟨h.below.trans (hb.mono h.below.size), Nat.le_trans h.len hb.size, fun i C t hi => (hb.block _ (h.lt hi)).trans (h.row i C t hi)⟩
theorem Fr.put (h : Fr w wr l) (i : Nat) (C : Array Value) (hi : l[i]? = some (D, t)) {l' : List (Array Value × TypeId)} (hl : l.set i (C, t) = l') : Fr w (wr.setRow (w.heap.size + i) C) l' := by
 subst hl
 refine ⟨below_setRow h.below (Nat.le_add_right _ _) _, by rw [List.length_set, size_setRow]; exact h.len, fun j E u hj => ?_⟩
 rw [List.getElem?_set] at hj
 by_cases hij : i = j
 ·subst hij
  rw [iP rfl, iP (List.getElem?_eq_some_iff.1 hi).1] at hj
  simp only [Option.some.injEq, Prod.mk.injEq] at hj
  obtain ⟨rfl, rfl⟩ := hj
  exact setRow_heap _ _ D _ t _ (h.row i D t hi)
 rw [iN hij] at hj
 rw [setRow_other _ _ _ _ oM]
 exact h.row j E u hj
theorem Fr.cell (h : Fr w wr l) (i j : Nat) (hi : l[i]? = some (C, t)) {v : Value} (hj : C[j]? = some v) : wr.cell? ⟨w.heap.size + i, j, none⟩ = some v := (cell_of_row wr _ j C t (0, 0) (h.row i C t hi)).trans hj
theorem Fr.fz (h : Fr w wr l) (i j : Nat) (hi : l[i]? = some (C, t)) : wr.frozen? ⟨w.heap.size + i, j, none⟩ = false := frozen_of_row wr _ j C t (h.row i C t hi)
theorem Fr.set (h : Fr w wr l) (i j : Nat) (hi : l[i]? = some (C, t)) (v : Value) {l' : List (Array Value × TypeId)} (hl : l.set i (C.setIfInBounds j v, t) = l') : Fr w (wr.setCell ⟨w.heap.size + i, j, none⟩ v) l' := by
 rw [lz (h.row i C t hi)]
 exact h.put i _ hi hl
end
section
variable {w wr : World} {l : List (Array Value × TypeId)} {C : Array Value} {t : TypeId}
theorem Fr.aC (h : Fr w wr ((C, t)::l)) : wr.heap[w.heap.size]? = some (.cells C t (0, 0)) := h.row 0 C t rfl
theorem Fr.BL (h : Fr w wr ((C, t)::l)) (D : Array Value) : Fr w (wr.setRow w.heap.size D) ((D, t)::l) := h.put 0 D (t := t) rfl rfl
theorem Fr.cell0 (h : Fr w wr ((C, t)::l)) (j : Nat) {v : Value} (hj : C[j]? = some v) : wr.cell? ⟨w.heap.size, j, none⟩ = some v := h.cell 0 j (t := t) rfl hj
theorem Fr.sZ (h : Fr w wr ((C, t)::l)) (j : Nat) : wr.frozen? ⟨w.heap.size, j, none⟩ = false := h.fz 0 j (C := C) (t := t) rfl
theorem Fr.iC (h : Fr w wr ((C, t)::l)) (j : Nat) (v : Value) : Fr w (wr.setCell ⟨w.heap.size, j, none⟩ v) ((C.setIfInBounds j v, t)::l) := h.set 0 j (t := t) rfl v rfl
theorem Fr.dL {x0 : Array Value × TypeId} (h : Fr w wr (x0::(C, t)::l)) : wr.heap[(w.heap.size + 1)]? = some (.cells C t (0, 0)) := h.row 1 C t rfl
theorem Fr.ZT {x0 : Array Value × TypeId} (h : Fr w wr (x0::(C, t)::l)) (D : Array Value) : Fr w (wr.setRow (w.heap.size + 1) D) (x0::(D, t)::l) := h.put 1 D (t := t) rfl rfl
theorem Fr.od {x0 : Array Value × TypeId} (h : Fr w wr (x0::(C, t)::l)) (j : Nat) {v : Value} (hj : C[j]? = some v) : wr.cell? ⟨(w.heap.size + 1), j, none⟩ = some v := h.cell 1 j (t := t) rfl hj
theorem Fr.Vf {x0 : Array Value × TypeId} (h : Fr w wr (x0::(C, t)::l)) (j : Nat) (v : Value) : Fr w (wr.setCell ⟨(w.heap.size + 1), j, none⟩ v) (x0::(C.setIfInBounds j v, t)::l) := h.set 1 j (t := t) rfl v rfl
theorem Fr.eT {x0 x1 : Array Value × TypeId} (h : Fr w wr (x0::x1::(C, t)::l)) : wr.heap[(w.heap.size + 2)]? = some (.cells C t (0, 0)) := h.row 2 C t rfl
theorem Fr.NU {x0 x1 : Array Value × TypeId} (h : Fr w wr (x0::x1::(C, t)::l)) (D : Array Value) : Fr w (wr.setRow (w.heap.size + 2) D) (x0::x1::(D, t)::l) := h.put 2 D (t := t) rfl rfl
theorem Fr.Ve {x0 x1 : Array Value × TypeId} (h : Fr w wr (x0::x1::(C, t)::l)) (j : Nat) (v : Value) : Fr w (wr.setCell ⟨(w.heap.size + 2), j, none⟩ v) (x0::x1::(C.setIfInBounds j v, t)::l) := h.set 2 j (t := t) rfl v rfl
theorem Fr.Kz {x0 x1 x2 : Array Value × TypeId} (h : Fr w wr (x0::x1::x2::(C, t)::l)) : wr.heap[(w.heap.size + 3)]? = some (.cells C t (0, 0)) := h.row 3 C t rfl
theorem Fr.Vd {x0 x1 x2 : Array Value × TypeId} (h : Fr w wr (x0::x1::x2::(C, t)::l)) (j : Nat) (v : Value) : Fr w (wr.setCell ⟨(w.heap.size + 3), j, none⟩ v) (x0::x1::x2::(C.setIfInBounds j v, t)::l) := h.set 3 j (t := t) rfl v rfl
end
abbrev zB : Array Value := #[.int .i64 0, .int .i64 0, .int .i64 0, .int .i64 0, .slice none 0 0, .slice none 0 0, .slice none 0 0, .int .i64 0, .int .i64 0, .int .i64 0, .slice none 0 0, .slice none 0 0, .int .i64 0, .int .i64 0, .int .i64 0, .int .i64 0, .bool false, .int .i64 0, .bool false, .bool false, .int .i64 0, .int .i64 0, .int .i64 0, .int .i64 0, .slice none 0 0, .slice none 0 0]
abbrev zF : Array Value := Bh
def XF (X : Nat → Prop) (N k : Nat) (b : Nat) : Prop := X b ∨ (N ≤ b ∧ b < N + k)
section
variable {X : Nat → Prop} {w w' : World}
theorem XF.lt (h : ∀ b, X b → b < N) (hM : N + k ≤ M) : ∀ b, XF X N k b → b < M := fun b hb => by
 rcases hb with hb | hb
 ·have := h b hb
  omega
 omega
theorem zp (k : Nat) : ∀ b, b < w.heap.size → XF X w.heap.size k b → X b := fun b hb hx => by
 rcases hx with hx | hx
 ·exact hx
 omega
theorem pJ (X : Nat → Prop) (N : Nat) : XF X N (k + 1) N := .inr ⟨Nat.le_refl _, oM⟩
theorem xf1 (X : Nat → Prop) (N : Nat) : XF X N (k + 2) (N + 1) := .inr ⟨oM, oM⟩
theorem xf2 (X : Nat → Prop) (N : Nat) : XF X N (k + 3) (N + 2) := .inr ⟨oM, oM⟩
theorem xf3 (X : Nat → Prop) (N : Nat) : XF X N (k + 4) (N + 3) := .inr ⟨oM, oM⟩
theorem cf.nM {Y : Nat → Prop} (h : cf X w x g) (hY : ∀ b, b < w.heap.size → Y b → X b) : cf Y w x g :=
 ⟨h.ok, h.a.dQ hY, h.a1, h.a2, h.b.dQ hY, h.b1, h.b2, h.p.dQ hY, h.p1, h.p2⟩
theorem cn.xf {A : Option Addr} {xs : List Value} (h : cn X w A xs) (hb : bW w w') (k : Nat) : cn (XF X w.heap.size k) w' A xs := (h.dQ (zp k)).below hb
theorem cf.xf (h : cf X w x g) (hb : bW w w') (k : Nat) : cf (XF X w.heap.size k) w' x g := (h.nM (zp k)).ao (.ak hb)
theorem ic.xf {q : Qv} {p : Nat} (h : ic X w q s p) (hb : bW w w') (k : Nat) : ic (XF X w.heap.size k) w' q s p := (h.dQ (zp k)).below hb
end
theorem zy {v : Tmp} {ty : TypeId} (h : fn.results = #[.cell p ty, .tmp u, .tmp v]) (tmps : Array Value) (w : World) (g : Nat) (t : TypeId) (cs : Array Value) (fr : Nat × Nat) (d : TypeDesc) 
 (hp : tmps.getD p undef = .pointer (some ⟨g, 0, none⟩)) (hg : w.heap[g]? = some (.cells cs t fr))
 (hu : P.underlying ty = some d) (hd : (match d with | .struct _ | .array _ _ => true | _ => false) = true) (hi : (P.info? ty).map (·.size) = some cs.size) :
 (results fn tmps).run P w = .ok (.tuple #[.agg cs, tmps.getD u undef, tmps.getD v undef]) w := by
 have e1 := run_loadVar_row (P := P) w g t ty cs fr d hg hu hd hi
 simp only [Array.getD_eq_getD_getElem?] at hp
 simp [results, h, Sem.run_bind, hp, asAddr, e1]
section
variable {P : Program} {ops : Array Oper} {Q : Exit → Go.Act → World → Prop} {md : Region.Mode} {S : World → Prop} {fuel : Nat} {ay : Array Bool} {a : Go.Act} {w : World}
theorem DK (hr : Region.ready md ops ay = [i]) (h : wpOp P ops Q i (fun a' w' => S w' ∧ wpAnyH P md ops Q S fuel (ay.setIfInBounds i true) a' w') a w) : wpAnyH P md ops Q S (fuel + 1) ay a w := by
 refine wpAnyH_all hr (by simp) (fun k hk => ?_)
 simp only [List.mem_cons, List.not_mem_nil, or_false] at hk
 subst hk
 exact h
theorem DJ (hr : Region.ready md ops ay = [i, j]) (h1 : wpOp P ops Q i (fun a' w' => S w' ∧ wpAnyH P md ops Q S fuel (ay.setIfInBounds i true) a' w') a w) (h2 : wpOp P ops Q j (fun a' w' => S w' ∧ wpAnyH P md ops Q S fuel (ay.setIfInBounds j true) a' w') a w) : wpAnyH P md ops Q S (fuel + 1) ay a w := by
 refine wpAnyH_all hr (by simp) (fun k hk => ?_)
 simp only [List.mem_cons, List.not_mem_nil, or_false] at hk
 rcases hk with rfl | rfl
 ·exact h1
 exact h2
variable {i : Nat} {oi : Oper} {K : Go.Act → World → Prop}
theorem n7 (hi : ops[i]? = some oi) (wi : Region.wanted oi (yielded ops a.tmps) = true) (ty : TypeId) (x : Operand) (ho : oi.op = .load ty x) (g : Nat) (hx : a.eval x = .pointer (some ⟨g, 0, none⟩)) (t : TypeId) (cs : Array Value) (d : TypeDesc) (hg : w.heap[g]? = some (.cells cs t (0, 0)))
 (hu : P.underlying ty = some d) (hd : (match d with | .struct _ | .array _ _ => true | _ => false) = true) (hsz : (P.info? ty).map (·.size) = some cs.size) (h : K (a.put oi.dst (.agg cs)) w) : wpOp P ops Q i K a w :=
 wpOp_step hi (fun K' hK => by
  rw [iP wi]
  exact wp_load_row ty x ho g hx t cs (0, 0) d hg hu hd hsz (hK _ _ h))
theorem fO (hi : ops[i]? = some oi) (wi : Region.wanted oi (yielded ops a.tmps) = true) (di : oi.dst = none) (ty : TypeId) (x y : Operand) (ho : oi.op = .store ty x y) (E : Nat) (c dX : Array Value)
 (hx : a.eval x = .pointer (some ⟨E, 0, none⟩)) (hy : a.eval y = .agg c) (t : TypeId) (hE : w.heap[E]? = some (.cells dX t (0, 0))) (hs : (P.info? ty).map (·.size) = some c.size) (hold : dX.size = c.size) (h1 : c.all (·.oneCell') = true)
 (h : K a (w.setRow E c)) : wpOp P ops Q i K a w :=
 wpOp_step hi (fun K' hK => by
  rw [iP wi]
  refine wp_store_row ty x y ho E c hx hy t dX hE hs hold h1 ?_
  rw [di, show a.put none undef = a from rfl]
  exact hK _ _ h)
theorem ru {al : List Value} (hi : ops[i]? = some oi) (wi : Region.wanted oi (yielded ops a.tmps) = true) (xl : List Operand) (JZ : Array TypeId) (ho : oi.op = .call { callee := .value (.func n), args := xl.toArray, argTypes := JZ }) (hargs : xl.map a.eval = al) (vW : ∀ (args : Array Value) (w : World), (callFunc n args).run P w = .ok (.enter n args) w) 
 (h : Calls P n al.toArray w fun e w' => ∃ v, e = .returned v ∧ K (a.put oi.dst v) w') : wpOp P ops Q i K a w :=
 wpOp_step hi (fun K' hK => by
  rw [iP wi]
  have he : (execOp a.eval oi).run P w = .ok (.enter n al.toArray) w := by
   obtain ⟨dst, op, ty, pos, after, guard⟩ := oi
   simp only at ho
   subst ho
   rw [execOp_call_go, show (#[] ++ xl.toArray.map a.eval ++ #[] : Array Value) = al.toArray by rw [← hargs]; simp]
   exact vW _ _
  unfold Oper.wp
  rw [he, Oper.upon_enter]
  refine h.mono ?_
  rintro e w' ⟨v, rfl, h2⟩
  exact hK _ _ h2)
end
section
variable {ops : Array Oper} {rest : List Oper} {o : Oper} {a : Go.Act} {w : World} {Q : Exit → Go.Act → World → Prop}
theorem K8 (nz : o.guard = none) (x : Operand) (ho : o.op = .load 43 x) (g : Nat) (hx : a.eval x = .pointer (some ⟨g, 0, none⟩)) (C : Array Value) (hg : w.heap[g]? = some (.cells C 43 (0, 0))) (hs : C.size = 15)
 (h : wpList prog ops Q rest (a.put o.dst (.agg C)) w) : wpList prog ops Q (o :: rest) a w :=
 wpList_load_row nz 43 x ho g hx 43 C (0, 0) _ hg underlying43 rfl (yg hs) h
theorem PZ (nz : o.guard = none) (x y : Operand) (ho : o.op = .store 43 x y) (hd : o.dst = none) (g : Nat) (C : Array Value) (hx : a.eval x = .pointer (some ⟨g, 0, none⟩)) (hy : a.eval y = .agg C) (dX : Array Value) (hg : w.heap[g]? = some (.cells dX 43 (0, 0))) (hs : C.size = 15) (hold : dX.size = 15) (h1 : C.all (·.oneCell') = true)
 (h : wpList prog ops Q rest a (w.setRow g C)) : wpList prog ops Q (o :: rest) a w :=
 wpList_store_rowTo nz 43 x y ho hd g C hx hy 43 dX hg (yg hs) (hold.trans hs.symm) h1 h
end
abbrev zS : Array Value := qt
def sa (q : Qv) (s : St) : Array Value := (aS q s)
def xa (x : Rc) (g : Fl) : Array Value := (aX x g)
theorem DZ (q : Qv) (s : St) : .agg (sa q s) = q.v s := rfl
theorem uw (x : Rc) (g : Fl) : .agg (xa x g) = x.v g := rfl
theorem cD (q : Qv) (s : St) : (sa q s).size = 15 := rfl
theorem aQ (x : Rc) (g : Fl) : (xa x g).size = 6 := rfl
theorem gK (q : Qv) (s : St) : (sa q s).all (·.oneCell') = true := by simp [sa, Value.oneCell']
theorem mE (x : Rc) (g : Fl) : (xa x g).all (·.oneCell') = true := by simp [xa, Value.oneCell']
theorem oN {ops : Array Oper} {Q : Exit → Go.Act → World → Prop} {K : Go.Act → World → Prop} (hi : ops[i]? = some oi) (wi : Region.wanted oi (yielded ops a.tmps) = true) (ho : oi.op = .alloc 43) (h : K (a.put oi.dst (.pointer (some ⟨w.heap.size, 0, none⟩))) (w.alloc (.cells zS 43))) : wpOp prog ops Q i K a w := by
 refine wpOp_step hi (fun K' hK => ?_)
 rw [iP wi]
 have he : (execOp a.eval oi).run prog w = .ok (.value (.pointer (some ⟨w.heap.size, 0, none⟩))) (w.alloc (.cells zS 43)) := by
  unfold execOp
  simp only [ho]
  go_simp
 unfold Oper.wp
 rw [he]
 exact hK _ _ h
def X5 (X : Nat → Prop) (N B5 b : Nat) : Prop := XF X N 2 b ∨ b = B5
structure Fs (X : Nat → Prop) (w wr : World) (y : Rc) (g : Fl) (B5 : Nat) (q : Qv) (s : St) : Prop where
 fr : Fr w wr [(xa y g, 35), (zF, 35)]
 row : wr.heap[B5]? = some (.cells (sa q s) 43 (0, 0))
 lt : w.heap.size + 2 ≤ B5
 rv : ic (X5 X w.heap.size B5) wr q s g.pg
 ra : cf (X5 X w.heap.size B5) wr y g
section
variable {X : Nat → Prop} {w wr w' : World} {y y' : Rc} {g g' : Fl} {B5 : Nat} {q q' : Qv} {s s' : St}
theorem Ro (hB : wr.heap.size ≤ B5) : ∀ b, b < wr.heap.size → X5 X N B5 b → XF X N 2 b := fun b hb hx => by
 rcases hx with hx | hx
 ·exact hx
 omega
theorem Fs.blt (h : Fs X w wr y g B5 q s) : B5 < wr.heap.size := (Array.getElem?_eq_some_iff.1 h.row).1
theorem Fs.ab (h : Fs X w wr y g B5 q s) (hb : bW wr w') : Fs X w w' y g B5 q s := ⟨h.fr.ab hb, (hb.block _ h.blt).trans h.row, h.lt, h.rv.below hb, h.ra.below hb⟩
theorem Fs.TX (h : Fs X w wr y g B5 q s) (hX : ∀ b, X b → b < w.heap.size) : ∀ b, X5 X w.heap.size B5 b → b < wr.heap.size := fun b hb => by
 have h1 := h.blt
 have h2 := h.lt
 rcases hb with (hb | hb) | hb
 ·have := hX b hb
  omega
 ·omega
 omega
theorem Fs.NT (h : Fs X w wr y g B5 q s) (hb : bW wr w') (hv : ic (X5 X w.heap.size B5) w' q' s' g.pg) : Fs X w (w'.setRow B5 (sa q' s')) y g B5 q' s' := by
 have h1 := h.ab hb
 have h2 := h.lt
 have ho := ah.row (X := X5 X w.heap.size B5) w' B5 (sa q' s') (.inr rfl)
 exact ⟨⟨below_setRow h1.fr.below oM _, by rw [size_setRow]; exact h1.fr.len, fun i C t hi => by
  have h3 := (List.getElem?_eq_some_iff.1 hi).1
  simp only [List.length_cons, List.length_nil] at h3
  rw [setRow_other _ _ _ _ oM]
  exact h1.fr.row i C t hi⟩, setRow_heap _ _ _ _ _ _ h1.row, h.lt, hv.ao ho, h1.ra.ao ho⟩
theorem Fs.new (h : Fr w wr [(xa y g, 35), (zF, 35)]) (VN : cf (XF X w.heap.size 2) wr y g) (hb : bW wr w') (hB : wr.heap.size ≤ B5) (hv : ic (XW (XF X w.heap.size 2) wr.heap.size M) w' q s g.pg) (hBM : B5 < M ∨ w'.heap.size ≤ B5) 
 (ho : ah (fun b => b = B5) w' W) (Iy : bW wr W) (Et : W.heap[B5]? = some (.cells (sa q s) 43 (0, 0))) : Fs X w W y g B5 q s := by
 have hl := h.len
 simp only [List.length_cons, List.length_nil] at hl
 have lR : ah (X5 X w.heap.size B5) w' W := ho.more (fun b hb => .inr hb)
 refine ⟨h.ab Iy, Et, oM, (hv.dQ (fun b aW hx => ?_)).ao lR, (VN.nM (Ro hB)).ao (.ak Iy)⟩
 rcases hx with hx | hx
 ·exact .inl hx
 rcases hBM with h1 | h1
 ·exact .inr ⟨oM, oM⟩
 omega
end
section
variable {P : Program} {ops : Array Oper} {Q : Exit → Go.Act → World → Prop} {md : Region.Mode} {S : World → Prop} {k : Nat}
def fF (P : Program) (md : Region.Mode) (ops : Array Oper) (Q : Exit → Go.Act → World → Prop) (S : World → Prop) (k : Nat) : Nat → Array Bool → Go.Act → World → Prop
 | 0, ay, a, w => wpAny P md ops Q 0 ay a w
 | fuel + 1, ay, a, w => (Region.ready md ops ay = [] → Q .normal a w) ∧
  ∀ i ∈ Region.ready md ops ay, wpOp P ops Q i (fun a' w' => (i = k → wpAny P md ops Q fuel (ay.setIfInBounds i true) a' w') ∧ (i ≠ k → S w' ∧ fF P md ops Q S k fuel (ay.setIfInBounds i true) a' w')) a w
theorem CZ : ∀ (fuel : Nat) (ay : Array Bool) (a : Go.Act) (w : World), fF P md ops Q S k fuel ay a w → wpAny P md ops Q fuel ay a w
 | 0, _, _, _, h => h
 | fuel + 1, ay, a, w, h => ⟨h.1, fun i hi => wpOp_mono (fun a' w' hh => by
  by_cases e : i = k
  ·exact hh.1 e
  exact CZ fuel _ a' w' (hh.2 e).2) (h.2 i hi)⟩
theorem U3 {v : Value} (hi : ops[i]? = some oi) (hs : Region.noSelect ops = true) (Li : ∀ o, ops[k]? = some o → ∃ e ∈ o.after, Region.binds md e = true ∧ e.on = i) 
 (hQ : ∀ c a w, Q (.panic c) (a.put oi.dst v) w → Q (.panic c) a w) :
 ∀ (fuel : Nat) (ay : Array Bool) (a : Go.Act) (w : World),
  (∀ j oj, ops[j]? = some oj → j ≠ i → ay.getD j true = false → (∀ e ∈ oj.after, Region.binds md e = true → e.on ≠ i) → oi.apart ops oj = true) →
  i ∈ Region.ready md ops ay → YieldsIf P ops S oi v a → S w →
  fF P md ops Q S k fuel (ay.setIfInBounds i true) (a.put oi.dst v) w → fF P md ops Q S k (fuel + 1) ay a w := by
 have T1 := Region.noSelect_spec hs
 intro fuel
 induction fuel with
 | zero =>
  intro ay a w _ hr hy hS H
  have xw : i ≠ k := by
   rintro rfl
   obtain ⟨_, o, ho, gG⟩ := mem_ready.1 hr
   obtain ⟨e, he, hb, Ou⟩ := Li o ho
   have h1 := gG e he hb
   have h0 := (mem_ready.1 hr).1
   rw [Ou] at h1
   cases aW : ay[i]? with
   | none => simp [aW] at h1
   | some z => simp [aW] at h0 h1; rw [h0] at h1; cases h1
  refine ⟨fun h => (by rw [h] at hr; cases hr), fun j hj => ?_⟩
  by_cases hji : j = i
  ·subst hji
   exact hy.wpOp hi hS ⟨fun e => absurd e xw, fun _ => ⟨hS, H⟩⟩
  have h1 := ready_mono hj hji
  rw [H.1] at h1
  cases h1
 | succ fuel ih =>
  intro ay a w Cq hr hy hS H
  have Vz : ay.getD i true = false := (mem_ready.1 hr).1
  have Ni : ay.getD i false = false := by
   cases aW : ay[i]? with
   | none => simp [aW]
   | some z => simp [aW] at Vz ⊢; exact Vz
  have xw : i ≠ k := by
   rintro rfl
   obtain ⟨_, o, ho, gG⟩ := mem_ready.1 hr
   obtain ⟨e, he, hb, Ou⟩ := Li o ho
   have h1 := gG e he hb
   rw [Ou, Ni] at h1
   cases h1
  refine ⟨fun h => (by rw [h] at hr; cases hr), fun j hj => ?_⟩
  by_cases hji : j = i
  ·subst hji
   exact hy.wpOp hi hS ⟨fun e => absurd e xw, fun _ => ⟨hS, H⟩⟩
  obtain ⟨Lv, oj, Qk, gG⟩ := mem_ready.1 hj
  have Ov : ∀ e ∈ oj.after, Region.binds md e = true → e.on ≠ i := fun e he hb Ou => by
   have h1 := gG e he hb
   rw [Ou, Ni] at h1
   cases h1
  have Nj : j ≠ k := by
   rintro rfl
   obtain ⟨e, he, hb, Ou⟩ := Li oj Qk
   exact Ov e he hb Ou
  have h2 := wpOp_putIf Qk (Cq j oj Qk hji Lv Ov) (fun cs b => T1 i oi cs b hi) (fun cs b => T1 j oj cs b Qk) hQ hy (H.2 j (ready_mono hj hji))
  refine wpOp_mono (fun a' w' h3 => ⟨fun e => absurd e Nj, fun _ => ?_⟩) h2
  obtain ⟨Vs, h4⟩ := h3
  obtain ⟨OE, h5⟩ := h4.2 Nj
  refine ⟨OE, ih (ay.setIfInBounds j true) a' w' (fun m om hm hmi hmun hmno => ?_) (ready_mono hr (Ne.symm hji)) Vs OE ?_⟩
  ·refine Cq m om hm hmi ?_ hmno
   by_cases Ow : j = m
   ·subst Ow
    exact Lv
   rw [getD_set_ne true Ow] at hmun
   exact hmun
  rw [Array.setIfInBounds_comm _ _ hji]
  exact h5
theorem G4 {v : Value} (hy : YieldsIf P ops (fun _ => True) oi v a) : Yields P ops oi v a := by
 rcases hy with ⟨h1, h2⟩ | h
 ·exact .inl ⟨h1, fun w => h2 w trivial⟩
 exact .inr h
theorem U2 {v : Value} (hi : ops[i]? = some oi) (hs : Region.noSelect ops = true) (xw : i ≠ k) 
 (hQ : ∀ c a w, Q (.panic c) (a.put oi.dst v) w → Q (.panic c) a w) :
 ∀ (fuel : Nat) (ay : Array Bool) (a : Go.Act) (w : World),
  (∀ j oj, ops[j]? = some oj → j ≠ i → ay.getD j true = false → (∀ e ∈ oj.after, Region.binds md e = true → e.on ≠ i) → oi.apart ops oj = true) →
  i ∈ Region.ready md ops ay → YieldsIf P ops (fun _ => True) oi v a → S w →
  fF P md ops Q S k fuel (ay.setIfInBounds i true) (a.put oi.dst v) w → fF P md ops Q S k (fuel + 1) ay a w := by
 have T1 := Region.noSelect_spec hs
 intro fuel
 induction fuel with
 | zero =>
  intro ay a w _ hr hy hS H
  refine ⟨fun h => (by rw [h] at hr; cases hr), fun j hj => ?_⟩
  by_cases hji : j = i
  ·subst hji
   exact hy.wpOp hi trivial ⟨fun e => absurd e xw, fun _ => ⟨hS, H⟩⟩
  have h1 := ready_mono hj hji
  rw [H.1] at h1
  cases h1
 | succ fuel ih =>
  intro ay a w Cq hr hy hS H
  have Vz : ay.getD i true = false := (mem_ready.1 hr).1
  have Ni : ay.getD i false = false := by
   cases aW : ay[i]? with
   | none => simp [aW]
   | some z => simp [aW] at Vz ⊢; exact Vz
  refine ⟨fun h => (by rw [h] at hr; cases hr), fun j hj => ?_⟩
  by_cases hji : j = i
  ·subst hji
   exact hy.wpOp hi trivial ⟨fun e => absurd e xw, fun _ => ⟨hS, H⟩⟩
  obtain ⟨Lv, oj, Qk, gG⟩ := mem_ready.1 hj
  have Ov : ∀ e ∈ oj.after, Region.binds md e = true → e.on ≠ i := fun e he hb Ou => by
   have h1 := gG e he hb
   rw [Ou, Ni] at h1
   cases h1
  have h2 := wpOp_putIf Qk (Cq j oj Qk hji Lv Ov) (fun cs b => T1 i oi cs b hi) (fun cs b => T1 j oj cs b Qk) hQ hy (H.2 j (ready_mono hj hji))
  have hfree' : ∀ m om, ops[m]? = some om → m ≠ i → (ay.setIfInBounds j true).getD m true = false → (∀ e ∈ om.after, Region.binds md e = true → e.on ≠ i) → oi.apart ops om = true := fun m om hm hmi hmun hmno => by
   refine Cq m om hm hmi ?_ hmno
   by_cases Ow : j = m
   ·subst Ow
    exact Lv
   rw [getD_set_ne true Ow] at hmun
   exact hmun
  refine wpOp_mono (fun a' w' h3 => ⟨fun e => ?_, fun Nj => ?_⟩) h2
  ·obtain ⟨Vs, h4⟩ := h3
   have h5 := h4.1 e
   rw [← Array.setIfInBounds_comm _ _ hji] at h5
   exact wpAny_first hi T1 hQ fuel (ay.setIfInBounds j true) a' w' hfree' (ready_mono hr (Ne.symm hji)) (G4 Vs) h5
  obtain ⟨Vs, h4⟩ := h3
  obtain ⟨OE, h5⟩ := h4.2 Nj
  refine ⟨OE, ih (ay.setIfInBounds j true) a' w' hfree' (ready_mono hr (Ne.symm hji)) Vs OE ?_⟩
  rw [Array.setIfInBounds_comm _ _ hji]
  exact h5
theorem Mv {v : Value} {fuel : Nat} (hi : ops[i]? = some oi) (hs : Region.noSelect ops = true) (hf : Region.free md ops ay i = true) (hr : (Region.ready md ops ay).contains i = true) 
 (xw : i ≠ k) (hQ : ∀ c a w, Q (.panic c) (a.put oi.dst v) w → Q (.panic c) a w) (hy : YieldsIf P ops (fun _ => True) oi v a) (hS : S w)
 (h : fF P md ops Q S k fuel (ay.setIfInBounds i true) (a.put oi.dst v) w) : fF P md ops Q S k (fuel + 1) ay a w :=
 U2 hi hs xw hQ fuel ay a w (Region.free_spec hi hf) (by simpa using hr) hy hS h
theorem Jd {v : Value} {fuel : Nat} (hi : ops[i]? = some oi) (hs : Region.noSelect ops = true) (hf : Region.free md ops ay i = true) (hr : (Region.ready md ops ay).contains i = true) 
 (hk : ((ops[k]?).map (·.after.any fun e => Region.binds md e && e.on == i)) = some true)
 (hQ : ∀ c a w, Q (.panic c) (a.put oi.dst v) w → Q (.panic c) a w) (hy : YieldsIf P ops S oi v a) (hS : S w)
 (h : fF P md ops Q S k fuel (ay.setIfInBounds i true) (a.put oi.dst v) w) : fF P md ops Q S k (fuel + 1) ay a w :=
 U3 hi hs (fun o ho => by
  rw [ho] at hk
  simp only [Option.map_some, Option.some.injEq, Array.any_eq_true', Bool.and_eq_true, beq_iff_eq] at hk
  obtain ⟨e, he, h1, h2⟩ := hk
  exact ⟨e, he, h1, h2⟩) hQ fuel ay a w (Region.free_spec hi hf) (by simpa using hr) hy hS h
theorem Mw {fuel : Nat} (hr : Region.ready md ops ay = [i]) (xw : i ≠ k) (h : wpOp P ops Q i (fun a' w' => S w' ∧ fF P md ops Q S k fuel (ay.setIfInBounds i true) a' w') a w) : fF P md ops Q S k (fuel + 1) ay a w :=
 ⟨fun h0 => (by rw [hr] at h0; cases h0), fun j hj => by
  rw [hr] at hj
  simp only [List.mem_cons, List.not_mem_nil, or_false] at hj
  subst hj
  exact wpOp_mono (fun a' w' hh => ⟨fun e => absurd e xw, fun _ => hh⟩) h⟩
theorem C0 {fuel : Nat} (hr : Region.ready md ops ay = [i, j]) (xw : i ≠ k) (Nj : j ≠ k) (h : wpOp P ops Q i (fun a' w' => S w' ∧ fF P md ops Q S k fuel (ay.setIfInBounds i true) a' w') a w) 
 (h2 : wpOp P ops Q j (fun a' w' => S w' ∧ fF P md ops Q S k fuel (ay.setIfInBounds j true) a' w') a w) : fF P md ops Q S k (fuel + 1) ay a w :=
 ⟨fun h0 => (by rw [hr] at h0; cases h0), fun m hm => by
  rw [hr] at hm
  simp only [List.mem_cons, List.not_mem_nil, or_false] at hm
  rcases hm with rfl | rfl
  ·exact wpOp_mono (fun a' w' hh => ⟨fun e => absurd e xw, fun _ => hh⟩) h
  exact wpOp_mono (fun a' w' hh => ⟨fun e => absurd e Nj, fun _ => hh⟩) h2⟩
theorem Je {fuel : Nat} (hr : Region.ready md ops ay = [k]) (h : wpOp P ops Q k (fun a' w' => wpAnyH P md ops Q (fun _ => True) fuel (ay.setIfInBounds k true) a' w') a w) : fF P md ops Q S k (fuel + 1) ay a w :=
 ⟨fun h0 => (by rw [hr] at h0; cases h0), fun j hj => by
  rw [hr] at hj
  simp only [List.mem_cons, List.not_mem_nil, or_false] at hj
  subst hj
  exact wpOp_mono (fun a' w' hh => ⟨fun _ => wpAny_of_held _ _ _ _ hh, fun e => absurd rfl e⟩) h⟩
theorem mh {id : Nat} (hm : P.follows .mixedOrders = true) (S : World → Prop) (k : Nat) (h : fF P .any ops Q S k ops.size (Array.replicate ops.size false) a w.drew) : (Code.region id ops true).wp P Q a w :=
 wp_region_any hm (CZ _ _ _ _ h)
end
end Go.Proofs.YtjdknddnanopaaaGreat
