/-
  ParamsDecodes: any pages; its argument, opened.
-/
import Derived.Test.YtfeceamhlphelaaW66
import Derived.Test.YtfeceamhlphelaaFrameC
namespace Go.Proofs.Ytfeceamhlphelaa
open Go.ChangeShapes Go.WideShapes Go.ChangeAt Go.RowKit Go.Deep
set_option linter.unusedVariables false
set_option linter.unusedSimpArgs false

theorem rdx_false {w : World} {B : Nat} {A : Option Addr} {xs : List Value} (h : Rd w B A xs) (hB : B ≤ w.heap.size) : RdX (fun _ => False) w A xs := fun hx => by
  obtain ⟨b, off, e, hlt, hc⟩ := h hx
  exact ⟨b, off, e, Nat.lt_of_lt_of_le hlt hB, fun h => h, hc⟩
set_option maxRecDepth 100000 in
/-- An argument that is a list of pages. -/
theorem open_pages {H : Type} {enc : TypeId × Value → H} {W : World} {v : Value} {d : DataW H} {p : List MemPlace} {base b0 : Nat} {spare : Nat → Bool} {r : Reach}
    (hv : Value.okWide Try.prog W r b0 70 v) (h : DataW.Trod enc Try.prog W base spare true 70 v d p) :
    ∃ (A : Option Addr) (n c : Nat) (l : List (List Int)), v = .slice A n c ∧ l.length = n ∧ n ≤ c ∧ c ≤ maxLen ∧ RdP (fun _ => False) W A l ∧ ∀ x ∈ l, Bytes x := by
  obtain ⟨a0, len0, cap0, rfl⟩ := okWide_slice Try.underlying70 hv
  obtain ⟨fuel, hf⟩ := h
  rcases open_slice1 Try.underlying70 (by kernel_rfl) hf with ⟨hcs, _⟩ | ⟨a, len, cap, m, n, V, D, Pl, hcs, _, hlc, hcm, hm, hxx, hi⟩
  · simp [Value.cells] at hcs
    obtain ⟨rfl, rfl, rfl⟩ := hcs
    exact ⟨none, 0, 0, [], rfl, rfl, Nat.le_refl _, Nat.zero_le _, RdP.nil, fun x hx => by simp at hx⟩
  · simp [Value.cells] at hcs
    obtain ⟨rfl, rfl, rfl⟩ := hcs
    have hml : len0 ≤ m := by rw [hm]; split <;> omega
    obtain ⟨l, hl, hp⟩ := list_of_each (fun (i : Nat) (x : Value × List Int) => W.cell? (a.add i) = some x.1 ∧ Bytes x.2 ∧ ∃ Q k c, x.1 = .slice Q k c ∧ x.2.length = k ∧ k ≤ c ∧ c ≤ maxLen ∧ Rd W W.heap.size Q (kcells .u8 x.2)) len0 (fun i hi' => by
      obtain ⟨h1, h2⟩ := hi i (by omega)
      obtain ⟨Q, k, c, zs, e, a1, a2, a3, a4, a5⟩ := open_kfield Try.underlying23 Try.underlying5 (by kernel_rfl) h2
      refine ⟨(V i, zs), h1, fun z hz => by have := bounds_u8 (a5 z hz); omega, Q, k, c, ?_, a1, a2, a3, a4⟩
      simpa using e)
    refine ⟨some a, len0, cap0, l.map (·.2), rfl, by rw [List.length_map]; exact hl, hlc, hcm, ⟨l.map (·.1), rdx_false (rd_of_cells fun j u hu => ?_) (Nat.le_refl _), by simp, fun i p hpi => ?_⟩, fun x hx => ?_⟩
    · rw [List.getElem?_map] at hu
      cases hlj : l[j]? with
      | none => rw [hlj] at hu; cases hu
      | some y =>
        rw [hlj] at hu
        injection hu with hu
        subst hu
        exact (hp j y hlj).1
    · rw [List.getElem?_map] at hpi
      cases hlj : l[i]? with
      | none => rw [hlj] at hpi; cases hpi
      | some y =>
        rw [hlj] at hpi
        injection hpi with hpi
        subst hpi
        obtain ⟨_, _, Q, k, c, e1, e2, e3, e4, e5⟩ := hp i y hlj
        exact ⟨Q, k, c, by rw [List.getElem?_map, hlj, ← e1]; rfl, e2, e3, e4, rdx_false e5 (Nat.le_refl _)⟩
    · obtain ⟨y, hy, rfl⟩ := List.mem_map.1 hx
      obtain ⟨i, hi'⟩ := List.mem_iff_getElem?.1 hy
      exact (hp i y hi').2.1

set_option maxRecDepth 100000 in
theorem decodes_long (A : Option Addr) (n c : Nat) (w : World) (hn : n ≤ maxLen) (h : 20 < n) :
    Calls Try.prog 11 #[.slice A n c] w fun e w' => e = .returned (.bool true) ∧ Below w.heap.size w w' := by
  unfold maxLen at hn
  go_enter Try.func11, Try.ntmps11
  go_wp2_with (fail)
  (with_reducible refine (awake51_any w).mono ?_)
  rintro e w1 ⟨rfl, hb⟩
  have HB1 := Lib.hid hb
  clear hb
  go_wp2_with (fail)
  (with_reducible refine (awake51_any w1).mono ?_)
  rintro e w2 ⟨rfl, hb⟩
  have HB2 : Hid (Below w.heap.size w w2) := HB1.out.trans (hb.mono HB1.out.size)
  clear hb
  go_wp2
  go_ret
  exact ⟨rfl, HB2.out⟩

set_option maxRecDepth 100000 in
set_option maxHeartbeats 4000000 in
theorem decodes_main (A : Option Addr) (n c : Nat) (ps : List (List Int)) (w : World) (hA : RdP (fun _ => False) w A ps) (hn : ps.length = n) (hnc : n ≤ c) (hcm : c ≤ maxLen) (hb : ∀ p ∈ ps, Bytes p) (h20 : n ≤ 20) :
    Calls Try.prog 11 #[.slice A n c] w fun e w' => e = .returned (.bool true) ∧ Below w.heap.size w w' := by
  have g1 := ne_nil
  have HA := Lib.hid hA
  have HN := Lib.hid hn
  have HB := Lib.hid hb
  have HCM := Lib.hid hcm
  unfold maxLen at hcm
  clear hA hn hb
  go_enter Try.func11, Try.ntmps11
  go_wp2_with (fail)
  (with_reducible refine (awake51_any w).mono ?_)
  rintro e w1 ⟨rfl, hb⟩
  have HB1 := Lib.hid hb
  clear hb
  go_wp2
  go_loopw [21] (fun i wr => ∃ k : Nat, k ≤ n ∧ i = .int .i64 k ∧ Below w.heap.size w wr) (fun i _ => n - (intOf i).toNat)
  case atStart => exact ⟨0, Nat.zero_le _, rfl, HB1.out⟩
  case round =>
    obtain ⟨k, hk, rfl, hBr⟩ := hrel
    have HBR := Lib.hid hBr
    clear hBr
    by_cases hlt : k < n
    · obtain ⟨p, hp⟩ := getElem?_of_lt (l := ps) (k := k) (by rw [HN.out]; exact hlt)
      obtain ⟨ba, off, Q, cc, rfl, _, e1, p1, p2, r1⟩ := (HA.out.below HBR.out).get hp
      have HG := Lib.hid (good_any Q p.length cc p wr r1.rd rfl p1 p2 (HB.out p (List.mem_of_getElem? hp)))
      have HR := Lib.hid (fun q => good_r Q p.length cc p (wr.drewN q) (r1.rd.drew (Nat.le_refl _) q) rfl p1 p2 (HB.out p (List.mem_of_getElem? hp)))
      have hpm : p.length ≤ 9223372036854775807 := by unfold maxLen at p2; omega
      generalize p.length = lp at *
      clear hp r1 p1 p2
      by_cases h1000 : 1000 < lp
      · go_wp2
        go_ret
        exact ⟨rfl, HBR.out⟩
      · have hgg : (goodP p != goodP p) = false := by simp
        go_wp2_with (fail)
        (with_reducible refine HG.out.mono ?_)
        rintro e w2 ⟨rfl, q2, rfl⟩
        go_wp2_with (fail)
        (with_reducible refine (HR.out _).mono ?_)
        rintro e w3 ⟨rfl, q3, rfl⟩
        go_wp2
        go_roundw
        case rel => exact ⟨k + 1, by omega, by go_num, Below.drewN HBR.out _⟩
        case measure => simp [intOf]; omega
    · have hkn : k = n := by omega
      subst hkn
      have HD := Lib.hid (decode_any A k c ps wr (HA.out.below HBR.out) HN.out hnc HCM.out HB.out)
      go_wp2_with (fail)
      (with_reducible refine HD.out.mono ?_)
      rintro e w2 ⟨A2, c2, rfl, ho2, hb2⟩
      have HD2 := Lib.hid (decode_r A k c ps w2 (HA.out.below (HBR.out.trans (hb2.mono HBR.out.size))) HN.out hnc HCM.out HB.out)
      have HO2 := Lib.hid ho2
      have HB2 : Hid (Below w.heap.size w w2) := HBR.out.trans (hb2.mono HBR.out.size)
      clear ho2 hb2
      obtain ⟨⟨s, v, er⟩, hq⟩ : ∃ q, decP ps = q := ⟨_, rfl⟩
      rw [hq] at HD2 HO2 ⊢
      simp only at HD2 HO2 ⊢
      clear hq
      go_wp2_with (fail)
      (with_reducible refine HD2.out.mono ?_)
      rintro e w3 ⟨A3, c3, rfl, ho3, hb3⟩
      simp only at ho3 ⊢
      obtain ⟨A', c', e', h21, h22, hr2⟩ := own_read (own_below HO2.out hb3)
      injection e' with e1 _ e3
      subst e1 e3
      obtain ⟨A', c', e', h31, h32, hr3⟩ := own_read ho3
      injection e' with e1 _ e3
      subst e1 e3
      have HIN := Lib.hid (ints_any A2 A3 v.length v.length c2 c3 v v w3 hr2 hr3 rfl rfl (Nat.le_trans h21 h22) (Nat.le_trans h21 h22))
      rw [decide_eq_true rfl] at HIN
      have HB3 : Hid (Below w.heap.size w w3) := HB2.out.trans (hb3.mono HB2.out.size)
      clear ho3 hb3 hr2 hr3
      go_wp2_with (fail)
      (with_reducible refine (num_any er w3).mono ?_)
      rintro e w4 ⟨rfl, rfl⟩
      go_wp2_with (fail)
      (with_reducible refine HIN.out.mono ?_)
      rintro e w5 ⟨rfl, q5, rfl⟩
      go_wp2
      go_ret
      exact ⟨rfl, Below.drewN HB3.out _⟩
end Go.Proofs.Ytfeceamhlphelaa
