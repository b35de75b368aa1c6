/-
  The events of layer 51; large, fit, sure.
-/
import Derived.Test.YtfeceamhlphelaaMe
namespace Go.Proofs.Ytfeceamhlphelaa
open Go.RowKit
set_option linter.unusedVariables false

structure Ev where
  k : Int
  a : Int
  b : Int
  P : Option Addr
  q : Nat
  r : Nat
  p : List Int

def Ev.cells (x : Ev) : List Value := [.int .u8 x.k, .int .i64 x.a, .int .i64 x.b, .slice x.P x.q x.r]
theorem Ev.cells_length (x : Ev) : x.cells.length = 4 := rfl
def ecells (l : List Ev) : List Value := l.flatMap Ev.cells

structure Ev.ok (x : Ev) (w : World) (B0 : Nat) : Prop where
  rp : Rd w B0 x.P (kcells .u8 x.p)
  lp : x.p.length = x.q
  mp : x.q ≤ x.r
  cp : x.r ≤ maxLen
  bp : Bytes x.p
  sq : x.q ≤ 140737488351232
  k0 : 0 ≤ x.k
  k1 : x.k < 256
  a0 : I64 x.a
  b0 : I64 x.b
theorem Ev.ok.below {x : Ev} {w w' : World} {B0 B1 : Nat} (h : x.ok w B0) (hb : Below B1 w w') (hB : B0 ≤ B1) : x.ok w' B0 :=
  ⟨h.rp.below hb hB, h.lp, h.mp, h.cp, h.bp, h.sq, h.k0, h.k1, h.a0, h.b0⟩
theorem Rd.ev {w : World} {B : Nat} {A : Option Addr} {l : List Ev} (h : Rd w B A (ecells l)) {k : Nat} {x : Ev} (hx : l[k]? = some x) :
    ∃ b off, A = some ⟨b, off, none⟩ ∧ b < B ∧ w.cell? ⟨b, off + k * 4, none⟩ = some (.int .u8 x.k) ∧ w.cell? ⟨b, off + k * 4 + 1, none⟩ = some (.int .i64 x.a) ∧ w.cell? ⟨b, off + k * 4 + 2, none⟩ = some (.int .i64 x.b) ∧
      w.cell? ⟨b, off + k * 4 + 3, none⟩ = some (.slice x.P x.q x.r) := by
  have key : ∀ j u, x.cells[j]? = some u → (ecells l)[k * 4 + j]? = some u := fun j u hu => flat_get Ev.cells 4 Ev.cells_length l k j x u hx hu
  have hne : ecells l ≠ [] := by
    intro e
    have := key 0 _ rfl
    rw [e] at this
    simp at this
  obtain ⟨b, off, e, hlt, hc⟩ := h hne
  exact ⟨b, off, e, hlt, hc _ _ (key 0 _ rfl), hc _ _ (key 1 _ rfl), hc _ _ (key 2 _ rfl), hc _ _ (key 3 _ rfl)⟩
def sumE : List Ev → Nat
  | [] => 0
  | x :: l => 10 + min x.q 10000 + sumE l
theorem sumE_append (a b : List Ev) : sumE (a ++ b) = sumE a + sumE b := by
  induction a with
  | nil => simp [sumE]
  | cons x a ih => simp only [List.cons_append, sumE, ih]; omega
theorem sumE_le (l : List Ev) : sumE l ≤ 10010 * l.length := by
  induction l with
  | nil => simp [sumE]
  | cons x a ih => simp only [sumE, List.length_cons]; omega
def largeE (l : List Ev) : Bool := decide (200 < l.length ∨ 20000 < sumE l)

set_option maxRecDepth 100000 in
set_option maxHeartbeats 2000000 in
theorem large51_any (A : Option Addr) (n c : Nat) (l : List Ev) (w : World) (hA : Rd w w.heap.size A (ecells l)) (hn : l.length = n) (hnc : n ≤ c) (hcm : c ≤ maxLen) (hok : ∀ x ∈ l, x.ok w w.heap.size) :
    Calls Try.prog 53 #[.slice A n c] w fun e w' => e = .returned (.bool (largeE l)) ∧ Below w.heap.size w w' := by
  unfold maxLen at hcm
  have HA := Lib.hid hA
  have HN := Lib.hid hn
  have HOK : Hid (∀ x ∈ l, x.q ≤ 9223372036854775807) := fun x hx => by
    have h := hok x hx
    have h3 := h.mp
    have h4 := h.cp
    unfold maxLen at h4
    omega
  have HS := Lib.hid (sumE_le l)
  clear hA hn hok
  go_enter Try.func53, Try.ntmps53
  go_wp2
  go_loopw [3, 8] (fun s i wr => ∃ k : Nat, k ≤ n ∧ i = .int .i64 k ∧ (∃ z : Int, s = .int .i64 z ∧ (k ≤ 200 → z = (sumE (l.take k) : Nat))) ∧ Below w.heap.size w wr) (fun _ i _ => n - (intOf i).toNat)
  case atStart => exact ⟨0, by omega, rfl, ⟨0, rfl, fun _ => rfl⟩, Below.refl _ _⟩
  case round =>
    obtain ⟨k, hk, rfl, ⟨z, rfl, hz⟩, hB⟩ := hrel
    have HB := Lib.hid hB
    have hwr : w.heap.size ≤ wr.heap.size := hB.size
    clear hB
    by_cases hlt : k < n
    · obtain ⟨x, hx⟩ := getElem?_of_lt (l := l) (k := k) (by rw [HN.out]; exact hlt)
      have hm2 := HOK.out x (List.mem_of_getElem? hx)
      obtain ⟨b, off, rfl, hbl, c0, c1, c2, c3⟩ := (HA.out.below HB.out (Nat.le_refl _)).ev hx
      by_cases hk2 : k < 200
      · have hz' := hz (by omega)
        subst hz'
        have hsum : sumE (l.take (k + 1)) = sumE (l.take k) + (10 + min x.q 10000) := by
          rw [take_snoc_get l k x hx, sumE_append]
          simp [sumE]
        have hsl : sumE (l.take k) ≤ 10010 * k := by
          have := sumE_le (l.take k)
          rw [List.length_take] at this
          omega
        obtain ⟨S, hS⟩ : ∃ S, sumE (l.take k) = S := ⟨_, rfl⟩
        obtain ⟨S', hS'⟩ : ∃ S, sumE (l.take (k + 1)) = S := ⟨_, rfl⟩
        rw [hS, hS'] at hsum
        have HS' := Lib.hid hS'
        rw [hS] at hsl ⊢
        obtain ⟨u2, hu2⟩ : ∃ u, min x.q 10000 = u := ⟨_, rfl⟩
        have m2 : min (x.q : Int) 10000 = (u2 : Int) := by omega
        have hub2 : u2 ≤ 10000 := by omega
        rw [hu2] at hsum
        have HSUM := Lib.hid hsum
        clear hx hz hS hS' hu2 hsum
        go_wp2
        go_roundw
        case rel => exact ⟨k + 1, by omega, by go_num, ⟨_, rfl, fun _ => by rw [HS'.out]; have := HSUM.out; go_num⟩, HB.out.alloc hwr _⟩
        case measure => simp [intOf]; omega
      · clear hx hz
        go_wp2
        go_roundw
        case rel => exact ⟨k + 1, by omega, by go_num, ⟨_, rfl, fun h => by omega⟩, HB.out.alloc hwr _⟩
        case measure => simp [intOf]; omega
    · have hkn : k = n := by omega
      subst hkn
      have ht : l.take k = l := List.take_of_length_le (by rw [HN.out]; omega)
      rw [ht] at hz
      have HL : Hid (largeE l = decide (200 < k ∨ 20000 < sumE l)) := by unfold largeE; rw [Hid, HN.out]
      obtain ⟨S, hS⟩ : ∃ S, sumE l = S := ⟨_, rfl⟩
      rw [hS] at HL hz
      clear hS HS ht
      by_cases h1 : 200 < k
      · clear hz
        go_wp2
        go_ret
        exact ⟨by rw [HL.out, decide_eq_true (show 200 < k ∨ 20000 < S from Or.inl h1)]; rfl, HB.out⟩
      · have hz' := hz (by omega)
        subst hz'
        clear hz
        by_cases h2 : 20000 < S
        · go_wp2
          go_ret
          exact ⟨by rw [HL.out, decide_eq_true (show 200 < k ∨ 20000 < S from Or.inr h2)]; first | rfl | (show Ending.returned (Value.bool (decide ((200 : Int) < (k : Int)) || decide ((20000 : Int) < (S : Int)))) = _; rw [decide_eq_true (show (20000 : Int) < (S : Int) by omega), Bool.or_true]), HB.out⟩
        · go_wp2
          go_ret
          exact ⟨by rw [HL.out, decide_eq_false (show ¬ (200 < k ∨ 20000 < S) from fun h => h.elim h1 h2)]; first | rfl | (show Ending.returned (Value.bool (decide ((200 : Int) < (k : Int)) || decide ((20000 : Int) < (S : Int)))) = _; rw [decide_eq_false (show ¬ (20000 : Int) < (S : Int) by omega), decide_eq_false (show ¬ (200 : Int) < (k : Int) by omega)]; rfl), HB.out⟩

def surePar : Par := ⟨-9223372036854775808, 9223372036854775807, 0⟩
def sureP (n : Nat) : List Par := List.replicate n surePar
theorem sureP_ok (n : Nat) : ∀ p ∈ sureP n, p.ok := by
  intro p hp
  unfold sureP at hp
  rw [List.mem_replicate] at hp
  rw [hp.2]
  exact ⟨by unfold I64 surePar; simp, by unfold I64 surePar; simp, by unfold I64 surePar; simp⟩
theorem sureP_bad (n : Nat) : (sureP n).any badP = false := by
  rw [List.any_eq_false]
  intro p hp
  unfold sureP at hp
  rw [List.mem_replicate] at hp
  rw [hp.2]
  decide
theorem sureP_in {n i : Nat} {p : Par} (h : (sureP n)[i]? = some p) {x : Int} (hx : I64 x) : inPar p x = true := by
  unfold sureP at h
  rw [List.getElem?_replicate] at h
  split at h
  · injection h with h
    subst h
    unfold I64 at hx
    unfold inPar surePar
    rw [decide_eq_true_eq]
    simp only
    omega
  · cases h
set_option maxRecDepth 100000 in
set_option maxHeartbeats 2000000 in
theorem sure_any (n : Int) (N : Nat) (hN : clipI n 1 20 = N) (w : World) :
    Calls Try.prog 55 #[.int .i64 n] w fun e w' => ∃ A c, e = .returned (.slice A N c) ∧ w'.ownsRow w.heap.size 99 3 (.slice A N c) N (pcells (sureP N)) ∧ Below w.heap.size w w' := by
  have HC := Lib.hid (fun w => clip_any n 1 20 w)
  rw [hN] at HC
  have hN20 : N ≤ 20 := by unfold clipI at hN; omega
  obtain ⟨i9, hi9, hz90, hz91, hz92⟩ := info_parts info99
  clear hN
  go_enter Try.func55, Try.ntmps55
  go_wp2_with (fail)
  (with_reducible refine (HC.out w).mono ?_)
  rintro e w1 ⟨rfl, rfl⟩
  go_wp2
  go_loopw [3, 6] (fun v i wr => ∃ k : Nat, k ≤ N ∧ i = .int .i64 k ∧ wr.ownsRow w.heap.size 99 3 v k (pcells (sureP k)) ∧ Below w.heap.size w wr) (fun _ i _ => N - (intOf i).toNat)
  case atStart => exact ⟨0, Nat.zero_le _, rfl, World.ownsRow_nil _ _ _ _, Below.refl _ _⟩
  case round =>
    obtain ⟨k, hk, rfl, hO, hB⟩ := hrel
    have HO := Lib.hid hO
    have HB := Lib.hid hB
    clear hO hB
    by_cases hlt : k < N
    · go_wp2_with (at_builtin; refine wpList_append_own _ rfl _ _ 86 rfl w.heap.size 99 i9 (.agg #[.int .i64 0, .int .i64 0, .int .i64 0]) 3 24 Try.underlying86 hi9 hz90 hz91 hz92 rfl (by omega) _ _ _ rfl (own_below HO.out ((Below.refl _ _).alloc (Nat.le_refl _) _)) ⟨wr.heap.size, 0, none⟩ 1 1 surePar.cells rfl rfl (cells_new wr _ _ _ rfl) (by intro u hu; simp only [Par.cells, List.mem_cons, List.not_mem_nil, or_false] at hu; rcases hu with rfl | rfl | rfl <;> rfl) (by unfold maxLen; omega) (by omega) (by have := HB.out.size; simp; omega) ?_)
      intro v' w8 hown8 hgrow8 _
      have HO8 : Hid (w8.ownsRow w.heap.size 99 3 v' (k + 1) (pcells (sureP (k + 1)))) := by
        have e : sureP (k + 1) = sureP k ++ [surePar] := by unfold sureP; rw [List.replicate_succ']
        rw [Hid, e]
        unfold pcells at hown8 ⊢
        rw [List.flatMap_append, List.flatMap_singleton]
        exact hown8
      have HB8 : Hid (Below w.heap.size w w8) := (HB.out.alloc HB.out.size _).grown hgrow8 (by have := HB.out.size; simp; omega) (fun k hk => (HO.out.lt k hk).1)
      clear hown8 hgrow8
      go_wp2
      go_roundw
      case rel => exact ⟨k + 1, by omega, by go_num, HO8.out, HB8.out⟩
      case measure => simp [intOf]; omega
    · have hkn : k = N := by omega
      subst hkn
      obtain ⟨A', c', rfl, h1, h2, _⟩ := own_form HO.out
      go_wp2
      go_ret
      exact ⟨A', c', rfl, HO.out, HB.out⟩

theorem results_cell_o {fn : Func} {p : Tmp} {ty : TypeId} (h : fn.results = #[.cell p ty]) (tmps : Array Value) (P : Program) (w : World) :
    (results fn tmps).run P w = ((asAddr (tmps.getD p undef)).run P w).andThen fun a w₁ => (loadVar ty a).run P w₁ := by
  simp only [results, h]
  simp [Sem.run_bind, Result.andThen]
theorem cells_four (w : World) (a b c d : Value) (t : TypeId) : (w.alloc (.cells #[a, b, c, d] t)).cell? ⟨w.heap.size, 0, none⟩ = some a ∧ (w.alloc (.cells #[a, b, c, d] t)).cell? ⟨w.heap.size, 1, none⟩ = some b ∧ (w.alloc (.cells #[a, b, c, d] t)).cell? ⟨w.heap.size, 2, none⟩ = some c ∧ (w.alloc (.cells #[a, b, c, d] t)).cell? ⟨w.heap.size, 3, none⟩ = some d := by
  refine ⟨?_, ?_, ?_, ?_⟩ <;> (rw [World.cell?_alloc_new]; rfl)

set_option maxRecDepth 100000 in
set_option maxHeartbeats 2000000 in
theorem fit_any (b p f c : Int) (B P F C : Nat) (hP : clipI p 1 8 = P) (hB : clipI b 2 6 = B) (hF : clipI f 0 ((B : Int) - 2) = F) (hC : clipI c 2 ((B : Int) - (F : Int)) = C) (w : World) :
    Calls Try.prog 54 #[.agg #[.int .i64 b, .int .i64 p, .int .i64 f, .int .i64 c]] w fun e w' => e = .returned (.agg #[.int .i64 B, .int .i64 P, .int .i64 F, .int .i64 C]) ∧ Below w.heap.size w w' := by
  have H1 := Lib.hid (fun w => clip_any p 1 8 w)
  have H2 := Lib.hid (fun w => clip_any b 2 6 w)
  have H3 := Lib.hid (fun w => clip_any f 0 ((B : Int) - 2) w)
  have H4 := Lib.hid (fun w => clip_any c 2 ((B : Int) - (F : Int)) w)
  rw [hP] at H1
  rw [hB] at H2
  rw [hF] at H3
  rw [hC] at H4
  have b1 : B ≤ 6 := by unfold clipI at hB; omega
  have b2 : 2 ≤ B := by unfold clipI at hB; omega
  have f1 : F ≤ 4 := by unfold clipI at hF; omega
  clear hP hB hF hC
  go_enter Try.func54, Try.ntmps54
  go_wp2_with (fail)
  (with_reducible refine (H1.out _).mono ?_)
  rintro e w1 ⟨rfl, rfl⟩
  go_wp2_with (fail)
  (with_reducible refine (H2.out _).mono ?_)
  rintro e w1 ⟨rfl, rfl⟩
  go_wp2_with (fail)
  (with_reducible refine (H3.out _).mono ?_)
  rintro e w1 ⟨rfl, rfl⟩
  go_wp2_with (fail)
  (with_reducible refine (H4.out _).mono ?_)
  rintro e w1 ⟨rfl, rfl⟩
  go_wp2
  refine bodyPost_ret (v := .agg #[.int .i64 B, .int .i64 P, .int .i64 F, .int .i64 C]) ?_ rfl ⟨rfl, ((Below.refl _ _).alloc (Nat.le_refl _) _).alloc (by simp) _⟩
  rw [results_cell_o rfl]
  go_simp
end Go.Proofs.Ytfeceamhlphelaa
