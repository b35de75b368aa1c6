/-
  A queue: a slice of integers of the call's own, appended to at its end and cut at its front.
-/
import Derived.Test.YtcfhnjdaijdoiaaMem4
namespace Go.Proofs.Ytcfhnjdaijdoiaa
open Go.RowKit

/-- v is a queue of these numbers, in a block from B on, whose elements are of type e. -/
def QS (w : World) (e : TypeId) (B : Nat) (v : Value) (q : List Int) : Prop :=
  (v = .slice none 0 0 ∧ q = []) ∨
  ∃ g off cap cur, v = .slice (some ⟨g, off, none⟩) q.length cap ∧ B ≤ g ∧ w.heap[g]? = some (.cells cur e (0, 0)) ∧ q.length ≤ cap ∧ cap ≤ maxLen ∧ off + cap ≤ cur.size ∧
    ∀ j x, q[j]? = some x → cur[off + j]? = some (.int .i64 x)

theorem QS.kept {w w' : World} {e : TypeId} {B : Nat} {v : Value} {q : List Int} (h : QS w e B v q) {row : Option Nat} (hg : w.grownBy w' row) (hne : ∀ g, v.ownBlock = some g → row ≠ some g) : QS w' e B v q := by
  rcases h with h | ⟨g, off, cap, cur, rfl, hB, hh, h1, h2, h3, h4⟩
  · exact .inl h
  · refine .inr ⟨g, off, cap, cur, rfl, hB, ?_, h1, h2, h3, h4⟩
    rw [hg.block g (Array.getElem?_eq_some_iff.1 hh).1 (fun e => hne g rfl e.symm)]
    exact hh

theorem QS.lt {w : World} {e : TypeId} {B : Nat} {v : Value} {q : List Int} (h : QS w e B v q) {g : Nat} (hg : v.ownBlock = some g) : B ≤ g ∧ g < w.heap.size := by
  rcases h with ⟨rfl, _⟩ | ⟨g', off, cap, cur, rfl, hB, hh, _⟩
  · simp [Value.ownBlock] at hg
  · simp [Value.ownBlock] at hg
    subst hg
    exact ⟨hB, (Array.getElem?_eq_some_iff.1 hh).1⟩

/-- A queue and an owned row of another element type share no block. -/
theorem QS.ne_own {w : World} {e e' : TypeId} {B B' size n : Nat} {v v' : Value} {q : List Int} {xs : List Value} (h : QS w e B v q) (h' : w.ownsRow B' e' size v' n xs) (hne : e ≠ e') :
    ∀ g, v.ownBlock = some g → v'.ownBlock ≠ some g := by
  intro g hg hg'
  rcases h with ⟨rfl, _⟩ | ⟨g1, off, cap, cur, rfl, hB, hh, _⟩
  · simp [Value.ownBlock] at hg
  · simp [Value.ownBlock] at hg
    subst hg
    rcases h'.2 with ⟨rfl, _⟩ | ⟨g2, cap2, cur2, rfl, _, hh2, _⟩
    · simp [Value.ownBlock] at hg'
    · simp [Value.ownBlock] at hg'
      subst hg'
      rw [hh] at hh2
      injection hh2 with hh2
      injection hh2 with _ ht
      exact hne ht

theorem QS.nil (w : World) (e : TypeId) (B : Nat) : QS w e B (.slice none 0 0) [] := .inl ⟨rfl, rfl⟩

/-- The length and the shape of a queue's value. -/
theorem QS.form {w : World} {e : TypeId} {B : Nat} {v : Value} {q : List Int} (h : QS w e B v q) : ∃ A c, v = .slice A q.length c ∧ q.length ≤ c ∧ c ≤ maxLen := by
  rcases h with ⟨rfl, rfl⟩ | ⟨g, off, cap, cur, rfl, _, _, h1, h2, _⟩
  · exact ⟨none, 0, rfl, Nat.le_refl _, Nat.zero_le _⟩
  · exact ⟨_, cap, rfl, h1, h2⟩

/-- The front of a queue that is not empty. -/
theorem QS.front {w : World} {e : TypeId} {B : Nat} {v : Value} {x : Int} {q : List Int} (h : QS w e B v (x :: q)) :
    ∃ g off cap, v = .slice (some ⟨g, off, none⟩) (q.length + 1) cap ∧ q.length + 1 ≤ cap ∧ cap ≤ maxLen ∧ w.cell? ⟨g, off, none⟩ = some (.int .i64 x) ∧
      QS w e B (if cap = 1 then .slice (some ⟨g, off, none⟩) q.length 0 else .slice (some ⟨g, off + 1, none⟩) q.length (cap - 1)) q := by
  rcases h with ⟨_, h⟩ | ⟨g, off, cap, cur, rfl, hB, hh, h1, h2, h3, h4⟩
  · cases h
  · simp only [List.length_cons] at h1
    refine ⟨g, off, cap, rfl, h1, h2, ?_, ?_⟩
    · rw [cell_of_row w g off cur e (0, 0) hh]
      simpa using h4 0 x rfl
    · by_cases hc : cap = 1
      · subst hc
        have : q = [] := List.eq_nil_of_length_eq_zero (by omega)
        subst this
        rw [if_pos rfl]
        exact .inr ⟨g, off, 0, cur, rfl, hB, hh, Nat.le_refl _, Nat.zero_le _, by omega, fun j y hy => by simp at hy⟩
      · rw [if_neg hc]
        refine .inr ⟨g, off + 1, cap - 1, cur, rfl, hB, hh, by omega, by omega, by omega, fun j y hy => ?_⟩
        rw [show off + 1 + j = off + (j + 1) by omega]
        exact h4 (j + 1) y (by simpa using hy)

section
variable {P : Program} (w : World)

theorem run_append_qs (B : Nat) (t ty e : TypeId) (i : TypeInfo) (z : Value) (ht : P.underlying t = some (.slice e)) (hi : P.info? e = some i) (hz : i.zero = some z)
    (hsize : i.size = 1) (hby : i.bytes = 8) (hzs : z.cells.size = 1)
    (v : Value) (q : List Int) (hq : QS w e B v q) (x : Int) (ad : Addr) (c : Nat) (hx : w.cell? ad = some (.int .i64 x))
    (hl : q.length + 1 ≤ 1000000000) (hB : B ≤ w.heap.size) :
    ∃ v' w', (Builtin.append_ #[t, t] ty #[v, .slice (some ad) 1 c]).run P w = .ok v' w' ∧ QS w' e B v' (q ++ [x]) ∧ w.grownBy w' v.ownBlock ∧
      (v'.ownBlock = v.ownBlock ∨ v'.ownBlock = some w.heap.size) := by
  have hnews : ∀ j u, [Value.int .i64 x][j]? = some u → w.cell? (ad.add j) = some u := by
    intro j u hu
    match j, hu with
    | 0, hu =>
      simp at hu
      subst hu
      have : ad.add 0 = ad := by unfold Addr.add; simp
      rw [this]
      exact hx
    | j + 1, hu => simp at hu
  have h1 : ∀ u ∈ [Value.int .i64 x], u.oneCell' = true := by
    intro u hu
    simp at hu
    subst hu
    rfl
  have hlen : (q ++ [x]).length = q.length + 1 := by simp
  -- the new row
  have grown : ∀ (old : Nat) (olds : List Value), olds = q.map (Value.int .i64) → ∀ row : Option Nat,
      QS (w.drew.alloc (.cells (olds.toArray ++ [Value.int .i64 x].toArray ++ Builtin.zeroCells z.cells (grownCap w (q.length + 1) old e - (q.length + 1))) e)) e B
        (.slice (some ⟨w.heap.size, 0, none⟩) (q.length + 1) (grownCap w (q.length + 1) old e)) (q ++ [x]) ∧
      w.grownBy (w.drew.alloc (.cells (olds.toArray ++ [Value.int .i64 x].toArray ++ Builtin.zeroCells z.cells (grownCap w (q.length + 1) old e - (q.length + 1))) e)) row := by
    rintro old olds rfl row
    have hge := grownCap_ge w (q.length + 1) old e
    have hcm : grownCap w (q.length + 1) old e ≤ maxLen := grownCap_le_maxLen w (q.length + 1) old e (by unfold maxLen; omega)
    refine ⟨.inr ⟨w.heap.size, 0, _, _, by rw [hlen], hB, heap_alloc_new w.drew _, by rw [hlen]; exact hge, hcm, ?_, ?_⟩, ⟨rfl, rfl, rfl, by simp, fun k hk _ => Below.heap_alloc w.drew _ k hk⟩⟩
    · simp only [Array.size_append, List.size_toArray, List.length_map, List.length_cons, List.length_nil, size_zeroCells, hzs]
      omega
    · intro j y hy
      rw [Nat.zero_add]
      have hj : j < q.length + 1 := by
        have := (List.getElem?_eq_some_iff.1 hy).1
        simpa using this
      have e1 : ((q.map (Value.int .i64)).toArray ++ [Value.int .i64 x].toArray ++ Builtin.zeroCells z.cells (grownCap w (q.length + 1) old e - (q.length + 1)))[j]? = (((q ++ [x]).map (Value.int .i64)))[j]? := by
        rw [Array.getElem?_append_left (by simp; omega)]
        simp
      rw [e1, List.getElem?_map, hy]
      rfl
  rcases hq with ⟨rfl, rfl⟩ | ⟨g, off, cap, cur, rfl, hBg, hh, hqc, hcm, hfit, hcells⟩
  · have hr := run_append_nil (P := P) w t ty e i z ht hi hz ad 1 c [Value.int .i64 x] (by simp [hsize]) hnews (by omega) (by omega) (by rw [hby]; omega)
    obtain ⟨g1, g2⟩ := grown 0 [] rfl (Value.ownBlock (.slice none 0 0))
    simp only [List.length_nil, Nat.zero_add, Array.empty_append] at g1 g2
    exact ⟨_, _, hr, by simpa using g1, by simpa using g2, .inr rfl⟩
  · by_cases hroom : q.length + 1 ≤ cap
    · have hf := run_firstCells_some (P := P) w i.size 1 ad 1 c [Value.int .i64 x] (by simp [hsize]) hnews
      rw [hsize] at hf
      have hst := run_storeCells_at P g (off + q.length) e [Value.int .i64 x] 0 cur w hh (by simp; omega) h1
      simp only [Nat.add_zero] at hst
      refine ⟨.slice (some ⟨g, off, none⟩) (q.length + 1) cap, _, by simp [Builtin.append_, run_underlying ht, sizeOf, typeInfo, hi, Builtin.lenOf, hroom, hf, Addr.add_lit, hsize, hst]; rfl, ?_, ?_, .inl rfl⟩
      · refine .inr ⟨g, off, cap, _, by rw [hlen], hBg, setRow_heap w g cur _ e _ hh, by rw [hlen]; exact hroom, hcm, ?_, ?_⟩
        · simp only [List.size_toArray, List.length_append, List.length_take, List.length_drop, Array.length_toList, List.length_cons]
          omega
        · intro j y hy
          have hj : j < q.length + 1 := by
            have := (List.getElem?_eq_some_iff.1 hy).1
            simpa using this
          rw [List.getElem?_toArray]
          by_cases hjq : j < q.length
          · rw [List.getElem?_append_left (by simp; omega), List.getElem?_take, if_pos (by omega)]
            rw [List.getElem?_append_left hjq] at hy
            simpa using hcells j y hy
          · obtain rfl : j = q.length := by omega
            simp at hy
            subst hy
            rw [List.getElem?_append_right (by simp; omega)]
            have : off + q.length - (List.take (off + q.length) cur.toList).length = 0 := by simp; omega
            rw [this]
            rfl
      · exact ⟨rfl, rfl, rfl, by simp, fun k _ hk => setRow_other w g k _ (fun e => hk (by simp [Value.ownBlock, e]))⟩
    · have holds : ∀ j u, (q.map (Value.int .i64))[j]? = some u → w.cell? ((⟨g, off, none⟩ : Addr).add j) = some u := by
        intro j u hu
        rw [Addr.add_lit, cell_of_row w g (off + j) cur e (0, 0) hh]
        rw [List.getElem?_map] at hu
        obtain ⟨y, hy, rfl⟩ := Option.map_eq_some_iff.1 hu
        exact hcells j y hy
      have hr := run_append_grow (P := P) w t ty e i z ht hi hz ⟨g, off, none⟩ q.length cap (q.map (Value.int .i64)) (by simp [hsize]) holds ad 1 c [Value.int .i64 x] (by simp [hsize]) hnews (by omega) (by omega) (growslice_fits (by omega) (by rw [hby]; omega))
      obtain ⟨g1, g2⟩ := grown cap _ rfl (Value.ownBlock (.slice (some ⟨g, off, none⟩) q.length cap))
      exact ⟨_, _, hr, g1, g2, .inr rfl⟩

theorem wpList_append_qs {ops : Array Oper} {rest : List Oper} {o : Oper} {a : Act} {Q : Exit → Act → World → Prop} (hgd : o.guard = none) (s xo : Operand) (t : TypeId)
    (ho : o.op = .call { callee := .builtin .append, args := #[s, xo], argTypes := #[t, t] })
    (B : Nat) (e : TypeId) (i : TypeInfo) (z : Value) (ht : P.underlying t = some (.slice e)) (hi : P.info? e = some i) (hz : i.zero = some z)
    (hsize : i.size = 1) (hby : i.bytes = 8) (hzs : z.cells.size = 1)
    (v : Value) (q : List Int) (hs : a.eval s = v) (hq : QS w e B v q) (x : Int) (ad : Addr) (c : Nat) (hxo : a.eval xo = .slice (some ad) 1 c) (hx : w.cell? ad = some (.int .i64 x))
    (hl : q.length + 1 ≤ 1000000000) (hB : B ≤ w.heap.size)
    (h : ∀ v' w', QS w' e B v' (q ++ [x]) → w.grownBy w' v.ownBlock → (v'.ownBlock = v.ownBlock ∨ v'.ownBlock = some w.heap.size) → wpList P ops Q rest (a.put o.dst v') w') : wpList P ops Q (o :: rest) a w := by
  refine wpList_plain hgd fun K hK => ?_
  obtain ⟨v', w', hrun, h2, h3, h4⟩ := run_append_qs (P := P) w B t o.type e i z ht hi hz hsize hby hzs v q hq x ad c hx hl hB
  unfold Oper.wp execOp
  simp only [ho, resolve, invoke, builtin, Sem.run_bind, Sem.run_pure, Result.andThen_ok, List.map_toArray, List.map_cons, List.map_nil, hs, hxo, hrun]
  exact hK _ _ (h v' w' h2 h3 h4)
end
end Go.Proofs.Ytcfhnjdaijdoiaa
