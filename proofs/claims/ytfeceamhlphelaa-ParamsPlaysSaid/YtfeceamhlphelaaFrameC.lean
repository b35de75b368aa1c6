/-
  Arguments of layer 51, opened: events, a region, a specification.
-/
import Derived.Test.YtfeceamhlphelaaFrameA
import Derived.Test.YtfeceamhlphelaaW54
namespace Go.Proofs.Ytfeceamhlphelaa
open Go.ChangeShapes Go.WideShapes Go.ChangeAt Go.RowKit Go.Deep
set_option linter.unusedVariables false

theorem i64_of {n : Int} (h : (Lit.int .i64 n).wf = true) : I64 n := by
  have := bounds_i64 h
  unfold I64
  omega
theorem ev_of {H : Type} {enc : TypeId × Value → H} {W : World} {base : Nat} {spare : Nat → Bool} {n : Nat} {v0 v1 v2 v3 : Value} {y0 y1 y2 y3 : DataW H × List MemPlace}
    (t0 : DataW.trod enc Try.prog W base spare true n 5 [v0] = some y0) (t1 : DataW.trod enc Try.prog W base spare true n 3 [v1] = some y1) (t2 : DataW.trod enc Try.prog W base spare true n 3 [v2] = some y2)
    (t3 : DataW.trod enc Try.prog W base spare true n 23 [v3] = some y3) (hw3 : ∀ k ∈ y3.1.weights Try.prog 23, k ≤ reachBytes) :
    ∃ x : Ev, x.ok W W.heap.size ∧ x.cells = [v0, v1, v2, v3] := by
  obtain ⟨n0, e0, _, w0⟩ := DataW.trod_int Try.underlying5 t0
  obtain ⟨n1, e1, _, w1⟩ := DataW.trod_int Try.underlying3 t1
  obtain ⟨n2, e2, _, w2⟩ := DataW.trod_int Try.underlying3 t2
  obtain ⟨A', m', c', zs', e3, h1', h2', h3', h4', h5', h6'⟩ := open_kfieldS t3 hw3
  simp only [List.cons.injEq, and_true] at e0 e1 e2 e3
  subst e0 e1 e2 e3
  have b0 := bounds_u8 w0
  exact ⟨⟨n0, n1, n2, A', m', c', zs'⟩, ⟨h4', h1', h2', h3', fun z hz => by have := bounds_u8 (h5' z hz); omega, h6', by simp only; omega, by simp only; omega, i64_of w1, i64_of w2⟩, rfl⟩

set_option maxRecDepth 100000 in
/-- An argument that is a slice of events. -/
theorem open_events {H : Type} {enc : TypeId × Value → H} {W : World} {v : Value} {d : DataW H} {p : List MemPlace} {base b0 : Nat} {spare : Nat → Bool} {r : Reach}
    (hv : Value.okWide Try.prog W r b0 83 v) (h : DataW.Trod enc Try.prog W base spare true 83 v d p) (hw : ∀ k ∈ d.weights Try.prog 83, k ≤ reachBytes) :
    ∃ (A : Option Addr) (n c : Nat) (l : List Ev), v = .slice A n c ∧ l.length = n ∧ n ≤ c ∧ c ≤ maxLen ∧ Rd W W.heap.size A (ecells l) ∧ ∀ x ∈ l, x.ok W W.heap.size := by
  obtain ⟨a0, len0, cap0, rfl⟩ := okWide_slice Try.underlying83 hv
  obtain ⟨fuel, hf⟩ := h
  rcases open_slice_fields Try.underlying83 Try.underlying92 (by kernel_rfl) (by kernel_rfl) hf with ⟨hcs, _⟩ | ⟨a, len, cap, m, D, Pl, hcs, _, hlc, hcm, hm, hxx, hi⟩
  · simp [Value.cells] at hcs
    obtain ⟨rfl, rfl, rfl⟩ := hcs
    exact ⟨none, 0, 0, [], rfl, rfl, Nat.le_refl _, Nat.zero_le _, fun h => absurd rfl h, fun x hx => by simp at hx⟩
  · simp [Value.cells] at hcs
    obtain ⟨rfl, rfl, rfl⟩ := hcs
    have hml : len0 ≤ m := by rw [hm]; split <;> omega
    obtain ⟨l, hl, hp⟩ := list_of_each (fun (i : Nat) (x : Ev) => x.ok W W.heap.size ∧ ∀ j u, x.cells[j]? = some u → W.cell? (a.add (i * 4 + j)) = some u) len0 (fun i hi' => by
      obtain ⟨ys, n, hDi, _, _, hf⟩ := hi i (by omega)
      obtain ⟨v0, y0, c0, _, t0⟩ := hf 0 _ rfl
      obtain ⟨v1, y1, c1, _, t1⟩ := hf 1 _ rfl
      obtain ⟨v2, y2, c2, _, t2⟩ := hf 2 _ rfl
      obtain ⟨v3, y3, c3, hy3, t3⟩ := hf 3 _ rfl
      obtain ⟨x, hx, hcs⟩ := ev_of t0 t1 t2 t3 (fun k hk => by
        have hd : d = .slice ((List.range len0).map D) ((List.range (m - len0)).map fun j => D (len0 + j)) := by injection hxx
        refine hw k ?_
        rw [hd]
        simp only [DataW.weights, Try.underlying83]
        refine List.mem_cons_of_mem _ (List.mem_append_left _ (weights_elem (i := i) (d := D i) (by simp [hi']) k ?_))
        rw [hDi]
        simp only [DataW.weights, Try.underlying92]
        exact DataW.weights_mem_each (j := 3) (t := 23) (d := y3.1) rfl (by simp [hy3]) k hk)
      refine ⟨x, hx, fun j u hu => ?_⟩
      rw [hcs] at hu
      match j, hu with
      | 0, hu => obtain rfl : v0 = u := by simpa using hu
                 exact c0
      | 1, hu => obtain rfl : v1 = u := by simpa using hu
                 exact c1
      | 2, hu => obtain rfl : v2 = u := by simpa using hu
                 exact c2
      | 3, hu => obtain rfl : v3 = u := by simpa using hu
                 exact c3
      | j + 4, hu => simp at hu)
    refine ⟨some a, len0, cap0, l, rfl, hl, hlc, hcm, rd_of_flat Ev.cells 4 Ev.cells_length (by omega) (fun i x hx => (hp i x hx).2), fun x hx => ?_⟩
    obtain ⟨i, hi'⟩ := List.mem_iff_getElem?.1 hx
    exact (hp i x hi').1

theorem par_of {H : Type} {enc : TypeId × Value → H} {W : World} {base : Nat} {spare : Nat → Bool} {n : Nat} {v0 v1 v2 : Value} {y0 y1 y2 : DataW H × List MemPlace}
    (t0 : DataW.trod enc Try.prog W base spare true n 3 [v0] = some y0) (t1 : DataW.trod enc Try.prog W base spare true n 3 [v1] = some y1) (t2 : DataW.trod enc Try.prog W base spare true n 3 [v2] = some y2) :
    ∃ x : Par, x.ok ∧ x.cells = [v0, v1, v2] := by
  obtain ⟨n0, e0, _, w0⟩ := DataW.trod_int Try.underlying3 t0
  obtain ⟨n1, e1, _, w1⟩ := DataW.trod_int Try.underlying3 t1
  obtain ⟨n2, e2, _, w2⟩ := DataW.trod_int Try.underlying3 t2
  simp only [List.cons.injEq, and_true] at e0 e1 e2
  subst e0 e1 e2
  exact ⟨⟨n0, n1, n2⟩, ⟨i64_of w0, i64_of w1, i64_of w2⟩, rfl⟩
set_option maxRecDepth 100000 in
/-- An argument that is a specification. -/
theorem open_pars {H : Type} {enc : TypeId × Value → H} {W : World} {v : Value} {d : DataW H} {p : List MemPlace} {base b0 : Nat} {spare : Nat → Bool} {r : Reach}
    (hv : Value.okWide Try.prog W r b0 86 v) (h : DataW.Trod enc Try.prog W base spare true 86 v d p) :
    ∃ (A : Option Addr) (n c : Nat) (l : List Par), v = .slice A n c ∧ l.length = n ∧ n ≤ c ∧ c ≤ maxLen ∧ Rd W W.heap.size A (pcells l) ∧ ∀ x ∈ l, x.ok := by
  obtain ⟨a0, len0, cap0, rfl⟩ := okWide_slice Try.underlying86 hv
  obtain ⟨fuel, hf⟩ := h
  rcases open_slice_fields Try.underlying86 Try.underlying99 (by kernel_rfl) (by kernel_rfl) hf with ⟨hcs, _⟩ | ⟨a, len, cap, m, D, Pl, hcs, _, hlc, hcm, hm, hxx, hi⟩
  · simp [Value.cells] at hcs
    obtain ⟨rfl, rfl, rfl⟩ := hcs
    exact ⟨none, 0, 0, [], rfl, rfl, Nat.le_refl _, Nat.zero_le _, fun h => absurd rfl h, fun x hx => by simp at hx⟩
  · simp [Value.cells] at hcs
    obtain ⟨rfl, rfl, rfl⟩ := hcs
    have hml : len0 ≤ m := by rw [hm]; split <;> omega
    obtain ⟨l, hl, hp⟩ := list_of_each (fun (i : Nat) (x : Par) => x.ok ∧ ∀ j u, x.cells[j]? = some u → W.cell? (a.add (i * 3 + j)) = some u) len0 (fun i hi' => by
      obtain ⟨ys, n, hDi, _, _, hf⟩ := hi i (by omega)
      obtain ⟨v0, y0, c0, _, t0⟩ := hf 0 _ rfl
      obtain ⟨v1, y1, c1, _, t1⟩ := hf 1 _ rfl
      obtain ⟨v2, y2, c2, _, t2⟩ := hf 2 _ rfl
      obtain ⟨x, hx, hcs⟩ := par_of t0 t1 t2
      refine ⟨x, hx, fun j u hu => ?_⟩
      rw [hcs] at hu
      match j, hu with
      | 0, hu => obtain rfl : v0 = u := by simpa using hu
                 exact c0
      | 1, hu => obtain rfl : v1 = u := by simpa using hu
                 exact c1
      | 2, hu => obtain rfl : v2 = u := by simpa using hu
                 exact c2
      | j + 3, hu => simp at hu)
    refine ⟨some a, len0, cap0, l, rfl, hl, hlc, hcm, rd_of_flat Par.cells 3 (fun _ => rfl) (by omega) (fun i x hx => (hp i x hx).2), fun x hx => ?_⟩
    obtain ⟨i, hi'⟩ := List.mem_iff_getElem?.1 hx
    exact (hp i x hi').1

set_option maxRecDepth 100000 in
/-- An argument that is a region. -/
theorem open_region {H : Type} {enc : TypeId × Value → H} {W : World} {v : Value} {d : DataW H} {p : List MemPlace} {base b0 : Nat} {spare : Nat → Bool} {r : Reach}
    (hv : Value.okWide Try.prog W r b0 82 v) (h : DataW.Trod enc Try.prog W base spare true 82 v d p) :
    ∃ a b c e : Int, v = .agg #[.int .i64 a, .int .i64 b, .int .i64 c, .int .i64 e] ∧ I64 a ∧ I64 b ∧ I64 c ∧ I64 e := by
  obtain ⟨cs, rfl, hsz⟩ : ∃ cs, v = .agg cs ∧ cs.size = Try.prog.cellsOf 82 := by
    simp only [Value.okWide, Try.underlying82] at hv
    obtain ⟨cs, h1, h2, _⟩ := hv
    exact ⟨cs, h1, h2⟩
  have hC : Try.prog.cellsOf 82 = 4 := by kernel_rfl
  have hc2 : Try.prog.cellsOf 3 = 1 := by kernel_rfl
  obtain ⟨fuel, hf⟩ := h
  obtain ⟨ys, m, _, _, _, hx, hg⟩ := DataW.trod_struct Try.underlying82 hf
  obtain ⟨cl⟩ := cs
  rw [hC] at hsz
  match cl, hsz with
  | [v0, v1, v2, v3], _ =>
    have g0 : DataW.trod enc Try.prog W base spare true m 3 ((([v0, v1, v2, v3] : List Value).drop 0).take (Try.prog.cellsOf 3)) = ys[0]? := hg 0 _ rfl
    have g1 : DataW.trod enc Try.prog W base spare true m 3 ((([v0, v1, v2, v3] : List Value).drop 1).take (Try.prog.cellsOf 3)) = ys[1]? := hg 1 _ rfl
    have g2 : DataW.trod enc Try.prog W base spare true m 3 ((([v0, v1, v2, v3] : List Value).drop 2).take (Try.prog.cellsOf 3)) = ys[2]? := hg 2 _ rfl
    have g3 : DataW.trod enc Try.prog W base spare true m 3 ((([v0, v1, v2, v3] : List Value).drop 3).take (Try.prog.cellsOf 3)) = ys[3]? := hg 3 _ rfl
    rw [hc2] at g0 g1 g2 g3
    have hys : ys.length = 4 := hx
    rw [List.getElem?_eq_getElem (by omega)] at g0 g1 g2 g3
    obtain ⟨n0, e0, _, w0⟩ := DataW.trod_int Try.underlying3 g0
    obtain ⟨n1, e1, _, w1⟩ := DataW.trod_int Try.underlying3 g1
    obtain ⟨n2, e2, _, w2⟩ := DataW.trod_int Try.underlying3 g2
    obtain ⟨n3, e3, _, w3⟩ := DataW.trod_int Try.underlying3 g3
    obtain rfl : v0 = .int .i64 n0 := by simpa using e0
    obtain rfl : v1 = .int .i64 n1 := by simpa using e1
    obtain rfl : v2 = .int .i64 n2 := by simpa using e2
    obtain rfl : v3 = .int .i64 n3 := by simpa using e3
    exact ⟨n0, n1, n2, n3, rfl, i64_of w0, i64_of w1, i64_of w2, i64_of w3⟩
end Go.Proofs.Ytfeceamhlphelaa
