/-
  Part 7 of the proof.
-/
import Derived.Test.YtjdknddnanopaaaGreatQ2
import Derived.Test.YtjdknddnanopaaaGreatQ6
namespace Go.Proofs.YtjdknddnanopaaaGreat
open Go.ChangeShapes Go.WideShapes Go.ChangeAt Go.RowKit Go.Deep Tryz
set_option maxRecDepth 100000
set_option maxHeartbeats 16000000
set_option linter.all false
variable {W : World} {b0 base : Nat} {v : Value}
theorem sM {n : Int} (h : (Lit.int .i64 n).wf = true) : dH n := by
 have := bounds_i64 h
 unfold dH
 omega
theorem Xd {H : Type} {enc : TypeId × Value → H} {spare : Nat → Bool} {n : Nat} {v0 v1 v2 v3 : Value} {y0 y1 y2 y3 : DataW H × List MemPlace} 
 (t0 : DataW.trod enc prog W base spare true n 5 [v0] = some y0) (t1 : DataW.trod enc prog W base spare true n 3 [v1] = some y1) (t2 : DataW.trod enc prog W base spare true n 3 [v2] = some y2)
 (t3 : DataW.trod enc prog W base spare true n 32 [v3] = some y3) (hw3 : ∀ k ∈ y3.1.weights prog 32, k ≤ reachBytes) :
 ∃ x : Ev, x.ok W W.heap.size ∧ x.cells = [v0, v1, v2, v3] := by
 obtain ⟨n0, e0, _, w0⟩ := DataW.trod_int underlying5 t0
 obtain ⟨n1, e1, _, w1⟩ := DataW.trod_int underlying3 t1
 obtain ⟨n2, e2, _, w2⟩ := DataW.trod_int underlying3 t2
 obtain ⟨A', m', c', zs', e3, JY, LH, Uw, h4', JX, SM⟩ := zG t3 hw3
 simp only [List.cons.injEq, and_true] at e0 e1 e2 e3
 subst e0 e1 e2 e3
 have b0 := bounds_u8 w0
 exact ⟨⟨n0, n1, n2, A', m', c', zs'⟩, ⟨h4', JY, LH, Uw, fun z hz => by have := bounds_u8 (JX z hz); omega, SM, by simp only; omega, by simp only; omega, sM w1, sM w2⟩, rfl⟩
theorem open_region {H : Type} {enc : TypeId × Value → H} {d : DataW H} {p : List MemPlace} {spare : Nat → Bool} {r : Reach} 
 (hv : Value.okWide prog W r b0 23 v) (h : DataW.Trod enc prog W base spare true 23 v d p) :
 ∃ a b c e : Int, v = .agg #[.int .i64 a, .int .i64 b, .int .i64 c, .int .i64 e] ∧ dH a ∧ dH b ∧ dH c ∧ dH e := by
 obtain ⟨cs, rfl, hsz⟩ : ∃ cs, v = .agg cs ∧ cs.size = prog.cellsOf 23 := by
  simp only [Value.okWide, underlying23] at hv
  obtain ⟨cs, h1, h2, _⟩ := hv
  exact ⟨cs, h1, h2⟩
 have hC : prog.cellsOf 23 = 4 := by kernel_rfl
 have sT : prog.cellsOf 3 = 1 := by kernel_rfl
 obtain ⟨fuel, hf⟩ := h
 obtain ⟨ys, m, _, _, _, hx, hg⟩ := DataW.trod_struct underlying23 hf
 obtain ⟨cl⟩ := cs
 rw [hC] at hsz
 match cl, hsz with
 | [v0, v1, v2, v3], _ =>
  have g0 : DataW.trod enc prog W base spare true m 3 ((([v0, v1, v2, v3] : List Value).drop 0).take (prog.cellsOf 3)) = ys[0]? := hg 0 _ rfl
  have g1 : DataW.trod enc prog W base spare true m 3 ((([v0, v1, v2, v3] : List Value).drop 1).take (prog.cellsOf 3)) = ys[1]? := hg 1 _ rfl
  have g2 : DataW.trod enc prog W base spare true m 3 ((([v0, v1, v2, v3] : List Value).drop 2).take (prog.cellsOf 3)) = ys[2]? := hg 2 _ rfl
  have g3 : DataW.trod enc prog W base spare true m 3 ((([v0, v1, v2, v3] : List Value).drop 3).take (prog.cellsOf 3)) = ys[3]? := hg 3 _ rfl
  rw [sT] at g0 g1 g2 g3
  have Z7 : ys.length = 4 := hx
  rw [List.getElem?_eq_getElem oM] at g0 g1 g2 g3
  obtain ⟨n0, e0, _, w0⟩ := DataW.trod_int underlying3 g0
  obtain ⟨n1, e1, _, w1⟩ := DataW.trod_int underlying3 g1
  obtain ⟨n2, e2, _, w2⟩ := DataW.trod_int underlying3 g2
  obtain ⟨n3, e3, _, w3⟩ := DataW.trod_int underlying3 g3
  obtain rfl : v0 = .int .i64 n0 := by simpa using e0
  obtain rfl : v1 = .int .i64 n1 := by simpa using e1
  obtain rfl : v2 = .int .i64 n2 := by simpa using e2
  obtain rfl : v3 = .int .i64 n3 := by simpa using e3
  exact ⟨n0, n1, n2, n3, rfl, sM w0, sM w1, sM w2, sM w3⟩
theorem open_events {H : Type} {enc : TypeId × Value → H} {d : DataW H} {p : List MemPlace} {spare : Nat → Bool} {r : Reach} 
 (hv : Value.okWide prog W r b0 24 v) (h : DataW.Trod enc prog W base spare true 24 v d p) (hw : ∀ k ∈ d.weights prog 24, k ≤ reachBytes) :
 ∃ (A : Option Addr) (n c : Nat) (l : List Ev), v = .slice A n c ∧ l.length = n ∧ n ≤ c ∧ c ≤ maxLen ∧ Rd W W.heap.size A (tc l) ∧ ∀ x ∈ l, x.ok W W.heap.size := by
 obtain ⟨a0, Ib, aaS, rfl⟩ := okWide_slice underlying24 hv
 obtain ⟨fuel, hf⟩ := h
 rcases qK underlying24 underlying52 (by kernel_rfl) (by kernel_rfl) hf with ⟨kY, _⟩ | ⟨a, len, cap, m, D, Pl, kY, _, hlc, fS, hm, Z8, hi⟩
 ·simp [Value.cells] at kY
  obtain ⟨rfl, rfl, rfl⟩ := kY
  exact ⟨none, 0, 0, [], rfl, rfl, Nat.le_refl _, Nat.zero_le _, fun h => absurd rfl h, fun x hx => by simp at hx⟩
 simp [Value.cells] at kY
 obtain ⟨rfl, rfl, rfl⟩ := kY
 have YP : Ib ≤ m := by rw [hm]; split <;> omega
 obtain ⟨l, hl, hp⟩ := qM (fun (i : Nat) (x : Ev) => x.ok W W.heap.size ∧ ∀ j u, x.cells[j]? = some u → W.cell? (a.add (i * 4 + j)) = some u) Ib (fun i Co => by
  obtain ⟨ys, n, hDi, _, _, hf⟩ := hi i oM
  obtain ⟨v0, y0, c0, _, t0⟩ := hf 0 _ rfl
  obtain ⟨v1, y1, c1, _, t1⟩ := hf 1 _ rfl
  obtain ⟨v2, y2, c2, _, t2⟩ := hf 2 _ rfl
  obtain ⟨v3, y3, c3, hy3, t3⟩ := hf 3 _ rfl
  obtain ⟨x, hx, kY⟩ := Xd t0 t1 t2 t3 (fun k hk => by
   have hd : d = .slice ((List.range Ib).map D) ((List.range (m - Ib)).map fun j => D (Ib + j)) := by injection Z8
   refine hw k ?_
   rw [hd]
   simp only [DataW.weights, underlying24]
   refine List.mem_cons_of_mem _ (List.mem_append_left _ (qB (i := i) (d := D i) (by simp [Co]) k ?_))
   rw [hDi]
   simp only [DataW.weights, underlying52]
   exact DataW.weights_mem_each (j := 3) (t := 32) (d := y3.1) rfl (by simp [hy3]) k hk)
  refine ⟨x, hx, fun j u hu => ?_⟩
  rw [kY] at hu
  match j, hu with
  | 0, hu => obtain rfl : v0 = u := by simpa using hu
             exact c0
  | 1, hu => obtain rfl : v1 = u := by simpa using hu
             exact c1
  | 2, hu => obtain rfl : v2 = u := by simpa using hu
             exact c2
  | 3, hu => obtain rfl : v3 = u := by simpa using hu
             exact c3
  | j + 4, hu => simp at hu)
 refine ⟨some a, Ib, aaS, l, rfl, hl, hlc, fS, D2 Ev.cells 4 Ev.m8 oM (fun i x hx => (hp i x hx).2), fun x hx => ?_⟩
 obtain ⟨i, Co⟩ := List.mem_iff_getElem?.1 hx
 exact (hp i x Co).1
end Go.Proofs.YtjdknddnanopaaaGreat
