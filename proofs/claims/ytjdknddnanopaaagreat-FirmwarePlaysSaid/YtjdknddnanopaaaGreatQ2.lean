/-
  Part 2 of the proof.
-/
import Derived.Deep.Grids
import Derived.ProofKit
import Derived.OpenShut
import Derived.ShutString
import Derived.ChangeOld
import Derived.Below
import Derived.Deep.Slices
import Derived.Deep.Fields
import Derived.ChangeSame
import Derived.SizedLaws
import Derived.Test.YtjdknddnanopaaaGreatQ1
namespace Go.Proofs.YtjdknddnanopaaaGreat
open Go.ChangeShapes Go.WideShapes Go.ChangeAt Go.RowKit Go.Deep Tryz
set_option maxRecDepth 100000
set_option maxHeartbeats 16000000
set_option linter.all false
variable {e : TypeId} {fuel : Nat} {cs : List Value} {w : World} {a : Addr}
section
variable {H : Type} {enc : TypeId × Value → H} {P : Program} {w : World} {base : Nat} {spare : Nat → Bool} {held : Bool}
theorem qK {t : TypeId} {fs : Array Field} {x : DataW H × List MemPlace} (ht : P.underlying t = some (.slice e)) (he : P.underlying e = some (.struct fs)) 
 (aag : oneCellFields P fs = true) (hC : P.cellsOf e = fs.size) (h : DataW.trod enc P w base spare held fuel t cs = some x) :
 (cs = [.slice none 0 0] ∧ x = (.nil, [])) ∨
 ∃ (a : Addr) (len cap m : Nat) (D : Nat → DataW H) (Pl : Nat → List MemPlace), cs = [.slice (some a) len cap] ∧ base ≤ a.block ∧ len ≤ cap ∧ cap ≤ maxLen ∧ m = (if spare a.block then cap else len) ∧
  x = (.slice ((List.range len).map D) ((List.range (m - len)).map fun j => D (len + j)), MemPlace.row a (m * fs.size) ++ (List.range m).flatMap Pl) ∧
  ∀ i, i < m → ∃ (ys : List (DataW H × List MemPlace)) (n : Nat), D i = .agg (ys.map (·.1)) ∧ Pl i = ys.flatMap (·.2) ∧ ys.length = fs.size ∧
   ∀ (j : Nat) (f : Field), fs[j]? = some f → ∃ (v : Value) (y : DataW H × List MemPlace), w.cell? (a.add (i * fs.size + j)) = some v ∧ ys[j]? = some y ∧ DataW.trod enc P w base spare held n f.type [v] = some y := by
 rcases open_slice ht h with h0 | ⟨a, len, cap, m, n, D, Pl, kY, hb, hl, hm, Qm, hx, hi⟩
 ·exact .inl h0
 refine .inr ⟨a, len, cap, m, D, Pl, kY, hb, hl, hm, Qm, by rw [hC] at hx; exact hx, fun i Sp => ?_⟩
 obtain ⟨cs', hc, ht'⟩ := hi i Sp
 rw [hC] at hc
 obtain ⟨ys, n', hn', hy, hlen, hyl, hf⟩ := DataW.trod_struct he ht'
 obtain ⟨_, hcl, kj⟩ := World.cells?_some hc
 simp only [Prod.mk.injEq] at hy
 refine ⟨ys, n', hy.1, hy.2, hyl, fun j f hj => ?_⟩
 obtain ⟨ho, hk⟩ := hone_of aag j f hj
 have hjl : j < fs.size := (Array.getElem?_eq_some_iff.1 hj).1
 have eI := kj j hjl
 have hv : cs'[j]? = some (cs'[j]'oM) := List.getElem?_eq_getElem oM
 have h1 := hf j f hj
 rw [ho, hk] at h1
 have hone' : (cs'.drop j).take 1 = [cs'[j]'oM] := by
  rw [List.drop_eq_getElem_cons oM]
  rfl
 rw [hone'] at h1
 have Z7 : ys[j]? = some (ys[j]'oM) := List.getElem?_eq_getElem oM
 refine ⟨_, _, ?_, Z7, h1.trans Z7⟩
 rw [← Go.Deep.add_add, eI, hv]
end
theorem qM {α : Type} (P : Nat → α → Prop) : ∀ (n : Nat), (∀ i, i < n → ∃ x, P i x) → ∃ l : List α, l.length = n ∧ ∀ i x, l[i]? = some x → P i x
 | 0, _ => ⟨[], rfl, fun i x h => by simp at h⟩
 | n + 1, h => by
  obtain ⟨l, hl, hp⟩ := qM P n (fun i hi => h i oM)
  obtain ⟨x, hx⟩ := h n oM
  refine ⟨l ++ [x], by simp [hl], fun i y hy => ?_⟩
  rw [List.getElem?_append] at hy
  split at hy
  ·exact hp i y hy
  have : i = n := by
   have := (List.getElem?_eq_some_iff.1 hy).1
   simp at this
   omega
  subst this
  simp [hl] at hy
  subst hy
  exact hx
theorem ri {α β : Type} (f : α → List β) (m : Nat) (hm : ∀ a, (f a).length = m) (nQ : 0 < m) :
 ∀ (l : List α) (j : Nat) (u : β), (l.flatMap f)[j]? = some u → ∃ x, l[j / m]? = some x ∧ (f x)[j % m]? = some u
 | [], j, u, h => by simp at h
 | a :: l, j, u, h => by
  simp only [List.flatMap_cons] at h
  by_cases hj : j < m
  ·rw [List.getElem?_append_left (by rw [hm]; exact hj)] at h
   exact ⟨a, by rw [Nat.div_eq_of_lt hj]; rfl, by rw [Nat.mod_eq_of_lt hj]; exact h⟩
  rw [List.getElem?_append_right (by rw [hm]; omega), hm] at h
  obtain ⟨x, hx, hu⟩ := ri f m hm nQ l (j - m) u h
  refine ⟨x, ?_, ?_⟩
  ·rw [Nat.div_eq_sub_div nQ oM]
   simpa using hx
  rw [Nat.mod_eq_sub_mod oM]
  exact hu
theorem tO {xs : List Value} (key : ∀ j u, xs[j]? = some u → w.cell? (a.add j) = some u) : Rd w w.heap.size (some a) xs := by
 intro fR
 obtain ⟨u, hu⟩ : ∃ u, xs[0]? = some u := by
  cases e : xs with
  | nil => exact absurd e fR
  | cons u r => exact ⟨u, rfl⟩
 obtain ⟨b, off, spot⟩ := a
 have hc := key 0 u hu
 have VD : spot = none := by simpa [Addr.add] using World.cell?_spot hc
 subst VD
 refine ⟨b, off, rfl, ?_, fun j u hu => ?_⟩
 ·have := World.block_lt_of_cell? w _ hc
  simpa [Addr.add] using this
 have := key j u hu
 rwa [Addr.add_lit] at this
theorem D2 {α : Type} (f : α → List Value) (m : Nat) (hm : ∀ a, (f a).length = m) (nQ : 0 < m) {l : List α} 
 (h : ∀ i x, l[i]? = some x → ∀ j u, (f x)[j]? = some u → w.cell? (a.add (i * m + j)) = some u) : Rd w w.heap.size (some a) (l.flatMap f) := by
 refine tO fun j u hu => ?_
 obtain ⟨x, hx, pY⟩ := ri f m hm nQ l j u hu
 have := h _ _ hx _ _ pY
 rwa [show j / m * m + j % m = j by rw [Nat.mul_comm]; exact Nat.div_add_mod j m] at this
theorem qB {H : Type} {P : Program} {e : TypeId} : ∀ {l : List (DataW H)} {i : Nat} {d : DataW H}, l[i]? = some d → ∀ n ∈ d.weights P e, n ∈ DataW.weightsAll P e l
 | [], _, _, h, _, _ => by simp at h
 | x :: l, 0, d, h, n, hn => by
  simp at h
  subst h
  simp only [DataW.weightsAll, List.mem_append]
  exact Or.inl hn
 | x :: l, i + 1, d, h, n, hn => by
  simp only [DataW.weightsAll, List.mem_append]
  exact Or.inr (qB (by simpa using h) n hn)
theorem zG {H : Type} {enc : TypeId × Value → H} {W : World} {x : DataW H × List MemPlace} {base : Nat} {spare : Nat → Bool} 
 (hf : DataW.trod enc prog W base spare true fuel 32 cs = some x) (hw : ∀ k ∈ x.1.weights prog 32, k ≤ reachBytes) :
 ∃ (A : Option Addr) (n c : Nat) (zs : List Int), cs = [.slice A n c] ∧ zs.length = n ∧ n ≤ c ∧ c ≤ maxLen ∧ Rd W W.heap.size A (ag .u8 zs) ∧ (∀ z ∈ zs, (Lit.int .u8 z).wf = true) ∧ n ≤ 140737488351232 := by
 have hb : prog.bytesOf 5 = 1 := by kernel_rfl
 rcases open_ints underlying32 underlying5 (by kernel_rfl) hf with ⟨kY, _⟩ | ⟨a, l, c, zs, kY, _, hl, hm, hz, Z8, eI, hwz⟩
 ·exact ⟨none, 0, 0, [], kY, rfl, Nat.le_refl _, Nat.zero_le _, fun h => absurd rfl h, fun x hx => by simp at hx, oM⟩
 have hlen : l ≤ zs.length := by
  rw [hz]
  split <;> omega
 have hsz : l ≤ 140737488351232 := by
  have h1 : ((lits (H := H) .u8 (zs.take l)).length + (lits (H := H) .u8 (zs.drop l)).length) * prog.bytesOf 5 ∈ x.1.weights prog 32 := by
   rw [Z8]
   simp only [DataW.weights, underlying32]
   exact List.mem_cons_self
  have h2 := hw _ h1
  rw [hb] at h2
  simp only [lits, List.length_map, List.length_take, List.length_drop] at h2
  unfold reachBytes at h2
  omega
 refine ⟨some a, l, c, zs.take l, kY, by simp; omega, hl, hm, tO fun j u hu => ?_, fun z hz => hwz z (List.mem_of_mem_take hz), hsz⟩
 simp only [ag, List.map_take, List.getElem?_take] at hu
 split at hu
 ·rename_i hj
  have hjz : j < zs.length := oM
  rw [List.getElem?_map, List.getElem?_eq_getElem hjz] at hu
  simp at hu
  subst hu
  rw [eI j hjz]
  simp [List.getD_eq_getElem?_getD, List.getElem?_eq_getElem hjz]
 cases hu
end Go.Proofs.YtjdknddnanopaaaGreat
