/-
  Arguments of layer 52, opened: rounds.
-/
import Derived.Test.YtjdknddnanopaaaFrameC
namespace Go.Proofs.Ytjdknddnanopaaa
open Go.ChangeShapes Go.WideShapes Go.ChangeAt Go.RowKit Go.Deep
set_option linter.unusedVariables false

/-- A round. -/
structure Ro where
  s : Int
  l : Int
  f : Int
  P : Option Addr
  q : Nat
  r : Nat
  p : List Int
  b : Int
  t : Bool
def Ro.cells (x : Ro) : List Value := [.int .i64 x.s, .int .i64 x.l, .int .i64 x.f, .slice x.P x.q x.r, .int .u8 x.b, .bool x.t]
theorem Ro.cells_length (x : Ro) : x.cells.length = 6 := rfl
def rocells (l : List Ro) : List Value := l.flatMap Ro.cells
structure Ro.ok (x : Ro) (w : World) (B0 : Nat) : Prop where
  rp : Rd w B0 x.P (kcells .u8 x.p)
  lp : x.p.length = x.q
  mp : x.q ≤ x.r
  cp : x.r ≤ maxLen
  bp : Bytes x.p
  sq : x.q ≤ 140737488351232
  s0 : I64 x.s
  l0 : I64 x.l
  f0 : I64 x.f
  b0 : 0 ≤ x.b
  b1 : x.b < 256
theorem Ro.ok.below {x : Ro} {w w' : World} {B0 B1 : Nat} (h : x.ok w B0) (hb : Below B1 w w') (hB : B0 ≤ B1) : x.ok w' B0 :=
  ⟨h.rp.below hb hB, h.lp, h.mp, h.cp, h.bp, h.sq, h.s0, h.l0, h.f0, h.b0, h.b1⟩
theorem Rd.ro {w : World} {B : Nat} {A : Option Addr} {l : List Ro} (h : Rd w B A (rocells l)) {k : Nat} {x : Ro} (hx : l[k]? = some x) :
    ∃ b off, A = some ⟨b, off, none⟩ ∧ b < B ∧ w.cell? ⟨b, off + k * 6, none⟩ = some (.int .i64 x.s) ∧ w.cell? ⟨b, off + k * 6 + 1, none⟩ = some (.int .i64 x.l) ∧ w.cell? ⟨b, off + k * 6 + 2, none⟩ = some (.int .i64 x.f) ∧
      w.cell? ⟨b, off + k * 6 + 3, none⟩ = some (.slice x.P x.q x.r) ∧ w.cell? ⟨b, off + k * 6 + 4, none⟩ = some (.int .u8 x.b) ∧ w.cell? ⟨b, off + k * 6 + 5, none⟩ = some (.bool x.t) := by
  have key : ∀ j u, x.cells[j]? = some u → (rocells l)[k * 6 + j]? = some u := fun j u hu => flat_get Ro.cells 6 Ro.cells_length l k j x u hx hu
  have hne : rocells l ≠ [] := by
    intro e
    have := key 0 _ rfl
    rw [e] at this
    simp at this
  obtain ⟨b, off, e, hlt, hc⟩ := h hne
  exact ⟨b, off, e, hlt, hc _ _ (key 0 _ rfl), hc _ _ (key 1 _ rfl), hc _ _ (key 2 _ rfl), hc _ _ (key 3 _ rfl), hc _ _ (key 4 _ rfl), hc _ _ (key 5 _ rfl)⟩

theorem ro_of {H : Type} {enc : TypeId × Value → H} {W : World} {base : Nat} {spare : Nat → Bool} {n : Nat} {v0 v1 v2 v3 v4 v5 : Value} {y0 y1 y2 y3 y4 y5 : DataW H × List MemPlace}
    (t0 : DataW.trod enc Try.prog W base spare true n 3 [v0] = some y0) (t1 : DataW.trod enc Try.prog W base spare true n 3 [v1] = some y1) (t2 : DataW.trod enc Try.prog W base spare true n 3 [v2] = some y2)
    (t3 : DataW.trod enc Try.prog W base spare true n 22 [v3] = some y3) (t4 : DataW.trod enc Try.prog W base spare true n 5 [v4] = some y4) (t5 : DataW.trod enc Try.prog W base spare true n 4 [v5] = some y5) (hw3 : ∀ k ∈ y3.1.weights Try.prog 22, k ≤ reachBytes) :
    ∃ x : Ro, x.ok W W.heap.size ∧ x.cells = [v0, v1, v2, v3, v4, v5] := by
  obtain ⟨n0, e0, _, w0⟩ := DataW.trod_int Try.underlying3 t0
  obtain ⟨n1, e1, _, w1⟩ := DataW.trod_int Try.underlying3 t1
  obtain ⟨n2, e2, _, w2⟩ := DataW.trod_int Try.underlying3 t2
  obtain ⟨A', m', c', zs', e3, h1', h2', h3', h4', h5', h6'⟩ := open_kfieldS t3 hw3
  obtain ⟨n4, e4, _, w4⟩ := DataW.trod_int Try.underlying5 t4
  obtain ⟨n5, e5, _⟩ := DataW.trod_bool Try.underlying4 t5
  simp only [List.cons.injEq, and_true] at e0 e1 e2 e3 e4 e5
  subst e0 e1 e2 e3 e4 e5
  have b0 := bounds_u8 w4
  exact ⟨⟨n0, n1, n2, A', m', c', zs', n4, n5⟩, ⟨h4', h1', h2', h3', fun z hz => by have := bounds_u8 (h5' z hz); omega, h6', i64_of w0, i64_of w1, i64_of w2, by simp only; omega, by simp only; omega⟩, rfl⟩
set_option maxRecDepth 100000 in
/-- An argument that is a slice of rounds. -/
theorem open_rounds {H : Type} {enc : TypeId × Value → H} {W : World} {v : Value} {d : DataW H} {p : List MemPlace} {base b0 : Nat} {spare : Nat → Bool} {r : Reach}
    (hv : Value.okWide Try.prog W r b0 83 v) (h : DataW.Trod enc Try.prog W base spare true 83 v d p) (hw : ∀ k ∈ d.weights Try.prog 83, k ≤ reachBytes) :
    ∃ (A : Option Addr) (n c : Nat) (l : List Ro), v = .slice A n c ∧ l.length = n ∧ n ≤ c ∧ c ≤ maxLen ∧ Rd W W.heap.size A (rocells l) ∧ ∀ x ∈ l, x.ok W W.heap.size := by
  obtain ⟨a0, len0, cap0, rfl⟩ := okWide_slice Try.underlying83 hv
  obtain ⟨fuel, hf⟩ := h
  rcases open_slice_fields Try.underlying83 Try.underlying85 (by kernel_rfl) (by kernel_rfl) hf with ⟨hcs, _⟩ | ⟨a, len, cap, m, D, Pl, hcs, _, hlc, hcm, hm, hxx, hi⟩
  · simp [Value.cells] at hcs
    obtain ⟨rfl, rfl, rfl⟩ := hcs
    exact ⟨none, 0, 0, [], rfl, rfl, Nat.le_refl _, Nat.zero_le _, fun h => absurd rfl h, fun x hx => by simp at hx⟩
  · simp [Value.cells] at hcs
    obtain ⟨rfl, rfl, rfl⟩ := hcs
    have hml : len0 ≤ m := by rw [hm]; split <;> omega
    obtain ⟨l, hl, hp⟩ := list_of_each (fun (i : Nat) (x : Ro) => x.ok W W.heap.size ∧ ∀ j u, x.cells[j]? = some u → W.cell? (a.add (i * 6 + j)) = some u) len0 (fun i hi' => by
      obtain ⟨ys, n, hDi, _, _, hf⟩ := hi i (by omega)
      obtain ⟨v0, y0, c0, _, t0⟩ := hf 0 _ rfl
      obtain ⟨v1, y1, c1, _, t1⟩ := hf 1 _ rfl
      obtain ⟨v2, y2, c2, _, t2⟩ := hf 2 _ rfl
      obtain ⟨v3, y3, c3, hy3, t3⟩ := hf 3 _ rfl
      obtain ⟨v4, y4, c4, _, t4⟩ := hf 4 _ rfl
      obtain ⟨v5, y5, c5, _, t5⟩ := hf 5 _ rfl
      obtain ⟨x, hx, hcs⟩ := ro_of t0 t1 t2 t3 t4 t5 (fun k hk => by
        have hd : d = .slice ((List.range len0).map D) ((List.range (m - len0)).map fun j => D (len0 + j)) := by injection hxx
        refine hw k ?_
        rw [hd]
        simp only [DataW.weights, Try.underlying83]
        refine List.mem_cons_of_mem _ (List.mem_append_left _ (weights_elem (i := i) (d := D i) (by simp [hi']) k ?_))
        rw [hDi]
        simp only [DataW.weights, Try.underlying85]
        exact DataW.weights_mem_each (j := 3) (t := 22) (d := y3.1) rfl (by simp [hy3]) k hk)
      refine ⟨x, hx, fun j u hu => ?_⟩
      rw [hcs] at hu
      match j, hu with
      | 0, hu => obtain rfl : v0 = u := by simpa using hu
                 exact c0
      | 1, hu => obtain rfl : v1 = u := by simpa using hu
                 exact c1
      | 2, hu => obtain rfl : v2 = u := by simpa using hu
                 exact c2
      | 3, hu => obtain rfl : v3 = u := by simpa using hu
                 exact c3
      | 4, hu => obtain rfl : v4 = u := by simpa using hu
                 exact c4
      | 5, hu => obtain rfl : v5 = u := by simpa using hu
                 exact c5
      | j + 6, hu => simp at hu)
    refine ⟨some a, len0, cap0, l, rfl, hl, hlc, hcm, rd_of_flat Ro.cells 6 Ro.cells_length (by omega) (fun i x hx => (hp i x hx).2), fun x hx => ?_⟩
    obtain ⟨i, hi'⟩ := List.mem_iff_getElem?.1 hx
    exact (hp i x hi').1
end Go.Proofs.Ytjdknddnanopaaa
