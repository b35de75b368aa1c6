
/-
  The dictionary's two maps, as functions of the key.
-/
import Derived.Test.YtjdknddnanopaaaChecked
import Derived.Test.YtjdknddnanopaaaBPlain
import Derived.Maps.OwnSet
import Derived.Maps.OwnOps
import Derived.DeepKeys4
namespace Go.Proofs.Ytjdknddnanopaaa.Bus
open Go.RowKit Go.Maps

theorem laidOut : laidOutB Try.prog = true := by kernel_rfl
theorem keyRow : (155 : TypeId) < Try.prog.types.size := of_decide_eq_true (by kernel_rfl)
theorem keyTy : Try.prog.keyTypeAt 2 155 = true := by kernel_rfl
theorem keyK : WideMaps.KeyLaw Try.prog 155 := deep_law_laid laidOut (m := 2) (by omega) keyRow keyTy (by simp only [Try.underlying155])
theorem keyLaw : Keyed Try.prog 155 := Keyed.of_law keyK
theorem intLaw : Keyed Try.prog 3 := int_keyed Try.underlying3
theorem zero3 (w : World) : (zeroValue 3).run Try.prog w = .ok (.int .i64 0) w := by kernel_rfl
theorem zero4 (w : World) : (zeroValue 4).run Try.prog w = .ok (.bool false) w := by kernel_rfl

theorem plainElem_bool_inv {P : Program} {e : TypeId} (he : P.underlying e = some .bool) {v : Value} {z : DataW Unit × List MemPlace} (h : plainElem P e v = some z) : ∃ a, v = .bool a ∧ z = (.lit (.bool a), []) := by
  unfold plainElem at h
  rw [he] at h
  cases v <;> simp at h
  subst h
  exact ⟨_, rfl, rfl⟩

/-- A key: index, sub. -/
def keyV (i s : Int) : Value := .agg #[.int .i64 i, .int .i64 s]

theorem keyV_inj {i s i' s' : Int} (h : keyV i s = keyV i' s') : i = i' ∧ s = s' := by simpa [keyV] using h

theorem key_of (i s : Int) (wi : (Lit.int .i64 i).wf = true) (ws : (Lit.int .i64 s).wf = true) : ∃ kl, keyOf Try.prog 155 (keyV i s) = some kl := by
  have hk : Try.prog.keyType 155 = true := by kernel_rfl
  have hc : Try.prog.cellsOf 155 = 2 := by kernel_rfl
  have hc3 : Try.prog.cellsOf 3 = 1 := by kernel_rfl
  obtain ⟨m, hm⟩ : ∃ m, Try.prog.types.size + 1 = m + 2 := ⟨Try.prog.types.size - 1, by have h : 155 < Try.prog.types.size := keyRow; omega⟩
  refine ⟨.string (keyBytes [.int .i64 i, .int .i64 s]), ?_⟩
  unfold keyOf
  simp only [Try.underlying155]
  rw [if_pos (by simp [hk, Value.formed, keyV, Try.underlying155, hc]), hm]
  unfold Program.keyLits
  simp only [Try.underlying155, keyV, Value.cells]
  rw [if_pos (by rw [hc]; exact ⟨rfl, by simp⟩)]
  simp [Program.keyLits, Try.underlying3, hc3, wi, ws]

/-- Block b is a map that has this place at each key. -/
def MapI (w : World) (b n : Nat) (f : Int → Int → Option Int) : Prop := ∃ D : DataW Unit, w.ownsMap Try.prog 155 (plainElem Try.prog 3) b n D ∧
  ∀ i s kl, keyOf Try.prog 155 (keyV i s) = some kl → Maps.has D kl = (f i s).isSome ∧ D.atKey kl (.lit (.int .i64 0)) = .lit (.int .i64 ((f i s).getD 0))

/-- Block b is a map that says whether there is an index. -/
def MapB (w : World) (b n : Nat) (f : Int → Bool) : Prop := ∃ D : DataW Unit, w.ownsMap Try.prog 3 (plainElem Try.prog 4) b n D ∧
  ∀ i kl, keyOf Try.prog 3 (.int .i64 i) = some kl → D.atKey kl (.lit (.bool false)) = .lit (.bool (f i))

theorem MapI.made (w : World) : MapI (w.alloc (.map #[] 0)) w.heap.size 0 (fun _ _ => none) := ⟨_, World.ownsMap_made w _ _ _, fun _ _ _ _ => ⟨rfl, rfl⟩⟩
theorem MapB.made (w : World) : MapB (w.alloc (.map #[] 0)) w.heap.size 0 (fun _ => false) := ⟨_, World.ownsMap_made w _ _ _, fun _ _ _ => rfl⟩
theorem MapI.kept {w w' : World} {b n : Nat} {f : Int → Int → Option Int} (h : MapI w b n f) {row : Option Nat} (hg : w.grownBy w' row) (hne : some b ≠ row) : MapI w' b n f := by
  obtain ⟨D, h1, h2⟩ := h
  exact ⟨D, h1.kept hg hne, h2⟩
theorem MapB.kept {w w' : World} {b n : Nat} {f : Int → Bool} (h : MapB w b n f) {row : Option Nat} (hg : w.grownBy w' row) (hne : some b ≠ row) : MapB w' b n f := by
  obtain ⟨D, h1, h2⟩ := h
  exact ⟨D, h1.kept hg hne, h2⟩
theorem MapI.lt {w : World} {b n : Nat} {f : Int → Int → Option Int} (h : MapI w b n f) : b < w.heap.size := by
  obtain ⟨D, h1, _⟩ := h
  exact h1.lt
theorem MapB.lt {w : World} {b n : Nat} {f : Int → Bool} (h : MapB w b n f) : b < w.heap.size := by
  obtain ⟨D, h1, _⟩ := h
  exact h1.lt

theorem MapI.put {w : World} {b n : Nat} {f : Int → Int → Option Int} (h : MapI w b n f) (hn : n < maxLen) {i s : Int} {kl : Lit} (hkey : keyOf Try.prog 155 (keyV i s) = some kl) {v : Int} (hv : (Lit.int .i64 v).wf = true) :
    ∃ w', (Instr.mapUpdate 150 (.map (some b)) (keyV i s) (.int .i64 v)).run Try.prog w = .ok () w' ∧ MapI w' b (n + 1) (fun i' s' => if i' = i ∧ s' = s then some v else f i' s') ∧ w.grownBy w' (some b) := by
  obtain ⟨D, h1, h2⟩ := h
  obtain ⟨w', hrun, hown, hg⟩ := h1.update keyLaw Try.underlying150 hn hkey (plainElem_int Try.underlying3 hv)
  have hD := h1.isMap
  have hkl := keyLaw.key hkey
  refine ⟨w', hrun, ⟨_, hown, fun i' s' kl' hk' => ?_⟩, hg⟩
  by_cases e : i' = i ∧ s' = s
  · obtain ⟨rfl, rfl⟩ := e
    rw [hkey] at hk'
    cases hk'
    simp only [and_self, if_pos]
    exact ⟨Maps.has_put_same hD hkl _, Maps.atKey_put_same hD hkl _ _⟩
  · simp only [if_neg e]
    have hne : kl' ≠ kl := fun h => e (keyV_inj (keyLaw.inj (h ▸ hk') hkey))
    rw [Maps.has_put_other hne, Maps.atKey_put_other hne]
    exact h2 i' s' kl' hk'

theorem MapB.put {w : World} {b n : Nat} {f : Int → Bool} (h : MapB w b n f) (hn : n < maxLen) {i : Int} (wi : (Lit.int .i64 i).wf = true) :
    ∃ w', (Instr.mapUpdate 151 (.map (some b)) (.int .i64 i) (.bool true)).run Try.prog w = .ok () w' ∧ MapB w' b (n + 1) (fun k' => if k' = i then true else f k') ∧ w.grownBy w' (some b) := by
  obtain ⟨D, h1, h2⟩ := h
  have hkey := keyOf_int_mk (P := Try.prog) Try.underlying3 wi
  obtain ⟨w', hrun, hown, hg⟩ := h1.update intLaw Try.underlying151 hn hkey (plainElem_bool Try.underlying4 true)
  have hD := h1.isMap
  have hkl := intLaw.key hkey
  refine ⟨w', hrun, ⟨_, hown, fun k' kl' hk' => ?_⟩, hg⟩
  by_cases e : k' = i
  · subst e
    rw [hkey] at hk'
    cases hk'
    simp only [if_pos]
    exact Maps.atKey_put_same hD hkl _ _
  · simp only [if_neg e]
    have hne : kl' ≠ .int .i64 i := by
      intro h
      subst h
      have := intLaw.inj hk' hkey
      exact e (by simpa using this)
    rw [Maps.atKey_put_other hne]
    exact h2 k' kl' hk'

/-- 'v, ok := place[key]'. -/
theorem MapI.look {w : World} {b n : Nat} {f : Int → Int → Option Int} (h : MapI w b n f) {i s : Int} {kl : Lit} (hkey : keyOf Try.prog 155 (keyV i s) = some kl) :
    (Instr.lookup 150 (.map (some b)) (keyV i s) true).run Try.prog w = .ok (.tuple #[.int .i64 ((f i s).getD 0), .bool (f i s).isSome]) w := by
  obtain ⟨D, h1, h2⟩ := h
  obtain ⟨v, ps, hrun, hv⟩ := h1.look_ok keyLaw Try.underlying150 (zero3 w) (plainElem_int Try.underlying3 (by decide)) hkey
  obtain ⟨c, rfl, hc, _⟩ := plainElem_int_inv Try.underlying3 hv
  obtain ⟨e1, e2⟩ := h2 i s kl hkey
  have hc := congrArg Prod.fst hc
  simp only at hc
  rw [e2] at hc
  simp only [DataW.lit.injEq, Lit.int.injEq, true_and] at hc
  rw [hrun, e1, hc]

/-- 'known[index]'. -/
theorem MapB.look {w : World} {b n : Nat} {f : Int → Bool} (h : MapB w b n f) {i : Int} (wi : (Lit.int .i64 i).wf = true) :
    (Instr.lookup 151 (.map (some b)) (.int .i64 i) false).run Try.prog w = .ok (.bool (f i)) w := by
  obtain ⟨D, h1, h2⟩ := h
  have hkey := keyOf_int_mk (P := Try.prog) Try.underlying3 wi
  obtain ⟨v, ps, hrun, hv⟩ := h1.lookup intLaw Try.underlying151 (zero4 w) (plainElem_bool Try.underlying4 false) hkey
  rw [h2 i _ hkey] at hv
  rw [hrun]
  obtain ⟨c, rfl, hc⟩ := plainElem_bool_inv Try.underlying4 hv
  have hc := congrArg Prod.fst hc
  simp only [DataW.lit.injEq, Lit.bool.injEq] at hc
  rw [hc]
end Go.Proofs.Ytjdknddnanopaaa.Bus
