/-
  Params: legal.
-/
import Derived.Test.YtfeceamhlphelaaW48
namespace Go.Proofs.Ytfeceamhlphelaa
open Go.RowKit
set_option linter.unusedVariables false
set_option pp.deepTerms true

theorem legal_length {sp : List Par} {v : List Int} (h : v.length = sp.length) : (legal sp v).length = sp.length := by simp [legal, h]
theorem legal_get {sp : List Par} {v : List Int} {k : Nat} {p : Par} {x : Int} (hp : sp[k]? = some p) (hx : v[k]? = some x) : (legal sp v)[k]? = some (legalP p x) := by
  unfold legal
  rw [List.getElem?_zipWith, hp, hx]
/-- So many values have been looked at. -/
def legTo (sp : List Par) (v : List Int) (k : Nat) : List Int := (legal sp v).take k ++ v.drop k
theorem legTo_zero (sp : List Par) (v : List Int) : legTo sp v 0 = v := by simp [legTo]
theorem legTo_all {sp : List Par} {v : List Int} {n : Nat} (h : v.length = n) (hs : sp.length = n) : legTo sp v n = legal sp v := by
  unfold legTo
  rw [List.take_of_length_le (by rw [legal_length (by omega)]; omega), List.drop_of_length_le (by omega), List.append_nil]
theorem legTo_length {sp : List Par} {v : List Int} {n k : Nat} (h : v.length = n) (hs : sp.length = n) (hk : k ≤ n) : (legTo sp v k).length = n := by
  unfold legTo
  rw [List.length_append, List.length_take, List.length_drop, legal_length (by omega)]
  omega
theorem legTo_get {sp : List Par} {v : List Int} {n k : Nat} {x : Int} (h : v.length = n) (hs : sp.length = n) (hk : k ≤ n) (hx : v[k]? = some x) : (legTo sp v k)[k]? = some x := by
  unfold legTo
  rw [List.getElem?_append_right (by rw [List.length_take]; omega), List.length_take, legal_length (by omega), List.getElem?_drop, show k + (k - min k sp.length) = k by omega]
  exact hx
theorem legTo_step {sp : List Par} {v : List Int} {n k : Nat} {p : Par} {x : Int} (h : v.length = n) (hs : sp.length = n) (hp : sp[k]? = some p) (hx : v[k]? = some x) : (legTo sp v k).set k (legalP p x) = legTo sp v (k + 1) := by
  have hk : k < n := by rw [← h]; exact (List.getElem?_eq_some_iff.1 hx).1
  have hl : ((legal sp v).take k).length = k := by rw [List.length_take, legal_length (by omega)]; omega
  unfold legTo
  rw [List.set_append_right _ _ (by omega), hl, Nat.sub_self, drop_cons_get v k x hx, List.set_cons_zero, take_snoc_get _ k _ (legal_get hp hx), List.append_assoc]
  rfl
theorem set_same9 {l : List Int} {k : Nat} {x : Int} (h : l[k]? = some x) : l.set k x = l := by
  apply List.ext_getElem?
  intro i
  rw [List.getElem?_set]
  by_cases e : k = i
  · subst e
    rw [if_pos rfl, if_pos (List.getElem?_eq_some_iff.1 h).1, h]
  · rw [if_neg e]

set_option maxRecDepth 100000 in
set_option maxHeartbeats 8000000 in
theorem legal_any {w : World} {D : Nat} {As : Option Addr} {n cs : Nat} (c3 : w.cell? ⟨D, 3, none⟩ = some (.slice As n cs)) (sp : List Par) (hA : Rd w w.heap.size As (pcells sp)) (hn : sp.length = n) (n1 : 1 ≤ n) (n2 : n ≤ 48) (hcs : n ≤ cs) (hcm : cs ≤ maxLen)
    (A : Option Addr) (c : Nat) (v : List Int) (hV : Rd w w.heap.size A (icells v)) (hv : v.length = n) :
    Calls Try.prog 99 #[.pointer (some ⟨D, 0, none⟩), .slice A n c] w fun e w' => ∃ v', e = .returned v' ∧ w'.ownsRow w.heap.size 3 1 v' n (icells (legal sp v)) ∧ Below w.heap.size w w' := by
  unfold maxLen at hcm
  have hDlt := World.block_lt_of_cell? w _ c3
  have HCL := Lib.hid (clone3_any A n c w.heap.size v w hV (Nat.le_refl _) hv (by omega))
  have HA := Lib.hid hA
  have HN := Lib.hid hn
  have HV := Lib.hid hv
  have HC3 : Hid (∀ W', Below w.heap.size w W' → W'.cell? ⟨D, 3, none⟩ = some (.slice As n cs)) := fun W' hbl => (hbl.cell (p := ⟨D, 3, none⟩) hDlt).trans c3
  clear hA hn hV hv c3
  go_enter Try.func99, Try.ntmps99
  go_wp2_with (fail)
  (with_reducible refine HCL.out.mono ?_)
  rintro e w1 ⟨v', rfl, ho, hb⟩
  obtain ⟨A', c', rfl, h1, h2, hg⟩ := own_form ho
  obtain ⟨g, rfl, hg1, hg2⟩ := hg (by omega)
  have HO1 := Lib.hid ho
  have HB1 := Lib.hid hb
  have c3 := HC3.out w1 hb
  unfold maxLen at h2
  clear ho hb
  go_wp2
  go_loopw [15] (fun i wr => ∃ k : Nat, k ≤ n ∧ i = .int .i64 k ∧ wr.ownsRow w.heap.size 3 1 (.slice (some ⟨g, 0, none⟩) n c') n (icells (legTo sp v k)) ∧ Below w.heap.size w wr) (fun i _ => n - (intOf i).toNat)
  case atStart => exact ⟨0, Nat.zero_le _, rfl, by rw [legTo_zero]; exact HO1.out, HB1.out⟩
  case round =>
    obtain ⟨k, hk, rfl, hO, hB⟩ := hrel
    have HO := Lib.hid hO
    have HB := Lib.hid hB
    clear hO hB
    by_cases hlt : k < n
    · obtain ⟨p, hp⟩ := getElem?_of_lt (l := sp) (k := k) (by rw [HN.out]; exact hlt)
      obtain ⟨x, hx⟩ := getElem?_of_lt (l := v) (k := k) (by rw [HV.out]; exact hlt)
      obtain ⟨b, off, rfl, hbl, e0, e1, e2⟩ := (RdX.of (X := fun _ => False) (HA.out.below HB.out (Nat.le_refl _)) HB.out.size (fun _ h => h.elim)).par hp
      have HP := Lib.hid hp
      have HXX := Lib.hid hx
      obtain ⟨W, hW⟩ : ∃ W, wr.alloc (.cells #[.int .i64 p.lo, .int .i64 p.hi, .int .i64 p.df] 99) = W := ⟨_, rfl⟩
      have HBW : Hid (Below wr.heap.size wr W) := by rw [← hW]; exact (Below.refl _ _).alloc (Nat.le_refl _) _
      have HOW : Hid (W.ownsRow w.heap.size 3 1 (.slice (some ⟨g, 0, none⟩) n c') n (icells (legTo sp v k))) := own_below HO.out HBW.out
      have d0 : W.cell? ⟨wr.heap.size, 0, none⟩ = some (.int .i64 p.lo) := by rw [← hW, World.cell?_alloc_new]; rfl
      have d1 : W.cell? ⟨wr.heap.size, 1, none⟩ = some (.int .i64 p.hi) := by rw [← hW, World.cell?_alloc_new]; rfl
      have d2 : W.cell? ⟨wr.heap.size, 2, none⟩ = some (.int .i64 p.df) := by rw [← hW, World.cell?_alloc_new]; rfl
      have d3 : W.cell? ⟨g, k, none⟩ = some (.int .i64 x) := by
        rw [HOW.out.cellAt k (by omega)]
        simp [icells, legTo_get HV.out HN.out hk hx]
      have z3 : W.frozen? ⟨g, k, none⟩ = false := HOW.out.frozenAt _
      have HBX : Hid (Below w.heap.size w W) := HB.out.trans (HBW.out.mono HB.out.size)
      have HST : Hid ((legTo sp v k).set k (legalP p x) = legTo sp v (k + 1)) := legTo_step HV.out HN.out hp hx
      have HW87 : Hid (∀ q, Calls Try.prog 87 #[.int .i64 x, .int .i64 p.lo, .int .i64 p.hi] (W.drewN q) fun e w' => e = .returned (.bool (inPar p x)) ∧ w' = W.drewN q) := fun q => within_q x p.lo p.hi (W.drewN q)
      clear hp hx
      by_cases hin : inPar p x = true
      · have HS2 : Hid (legTo sp v (k + 1) = legTo sp v k) := by
          rw [Hid, ← HST.out]
          unfold legalP
          rw [if_pos hin]
          exact set_same9 (legTo_get HV.out HN.out hk HXX.out)
        rw [hin] at HW87
        clear hin
        go_wp2
        go_quiet ((go_at_call 87; with_reducible exact Calls.quiet_of_same (HW87.out _)))
        go_wp2
        go_roundw
        case rel => exact ⟨k + 1, by omega, by go_num, by rw [HS2.out]; exact own_below HOW.out (Below.drewN (Below.refl _ _) _), HBX.out.trans ((Below.drewN (Below.refl _ _) _).mono HBX.out.size)⟩
        case measure => simp [intOf]; omega
      · have hin' : inPar p x = false := by simpa using hin
        have HS2 : Hid (legTo sp v (k + 1) = (legTo sp v k).set k p.df) := by
          rw [Hid, ← HST.out]
          unfold legalP
          rw [if_neg hin]
        rw [hin'] at HW87
        have HOS : Hid (∀ q, ((W.drewN q).setCell ⟨g, k, none⟩ (.int .i64 p.df)).ownsRow w.heap.size 3 1 (.slice (some ⟨g, 0, none⟩) n c') n (icells (legTo sp v (k + 1))) ∧ Below w.heap.size w ((W.drewN q).setCell ⟨g, k, none⟩ (.int .i64 p.df))) := fun q => by
          have ho := own_below HOW.out (Below.drewN (Below.refl W.heap.size W) q)
          have h5 := (ho.stored k (.int .i64 p.df)).1
          rw [HS2.out]
          refine ⟨?_, (HBX.out.trans ((Below.drewN (Below.refl _ _) q).mono HBX.out.size)).setCell (p := ⟨g, k, none⟩) hg1 _⟩
          have e : icells ((legTo sp v k).set k p.df) = (icells (legTo sp v k)).set k (.int .i64 p.df) := by simp [icells]
          rw [e]
          exact h5
        clear hin hin'
        go_wp2
        go_quiet ((go_at_call 87; with_reducible exact Calls.quiet_of_same (HW87.out _)))
        go_wp2
        go_roundw
        case rel => exact ⟨k + 1, by omega, by go_num, (HOS.out _).1, (HOS.out _).2⟩
        case measure => simp [intOf]; omega
    · have hkn : k = n := by omega
      subst hkn
      have HF : Hid (wr.ownsRow w.heap.size 3 1 (.slice (some ⟨g, 0, none⟩) k c') k (icells (legal sp v))) := by rw [Hid, ← legTo_all HV.out HN.out]; exact HO.out
      go_wp2
      go_ret
      exact ⟨_, rfl, HF.out, HB.out⟩
end Go.Proofs.Ytfeceamhlphelaa
