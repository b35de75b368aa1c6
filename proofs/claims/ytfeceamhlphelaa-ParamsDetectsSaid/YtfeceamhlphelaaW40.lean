/-
  Params: Set.
-/
import Derived.Test.YtfeceamhlphelaaW39
namespace Go.Proofs.Ytfeceamhlphelaa
open Go.RowKit
set_option linter.unusedVariables false
set_option pp.deepTerms true

section
variable {w0 w : World} {L : Lc} {S : Sc} {f : Fl} {s : St}

theorem pcells_length (l : List Par) : (pcells l).length = l.length * 3 := flat_length Par.cells 3 (fun _ => rfl) l
/-- What a call that sets does. -/
def SetR (w0 w : World) (L : Lc) (S : Sc) (f : Fl) (s : St) (i v : Int) (e : Ending) (w' : World) : Prop :=
  e = .returned (errV (setE s i v)) ∧ StAt w0 w' L S f (setF s i v) ∧ OnlyX (Own L S) w w'

set_option maxHeartbeats 2000000 in
theorem set_any (h : StAt w0 w L S f s) (ho : StOk f s) (i v : Int) :
    Calls Try.prog 57 #[.pointer (some ⟨S.D, 0, none⟩), .int .i64 i, .int .i64 v] w (SetR w0 w L S f s i v) := by
  have h1 := eqq_some S.D
  have c3 := h.row 3 _ rfl
  have c5 := h.row 5 _ rfl
  have c9 := h.row 9 _ rfl
  have hn1 := ho.n1
  have hn2 := ho.n2
  have hcg := h.cg
  unfold maxLen at hcg
  obtain ⟨hg1, hg2⟩ := hcg
  rw [ho.tl] at c5 hg1
  have H := Lib.hid h
  by_cases hb : s.broken = true
  · have HE : Hid (setE s i v = 20) := by unfold setE; rw [Hid, if_pos hb]
    have HF : Hid (setF s i v = s) := by unfold setF; rw [Hid, HE.out, if_neg (by decide)]
    rw [hb] at c9
    clear h ho hb
    go_enter Try.func57, Try.ntmps57
    go_wp2
    go_ret
    unfold SetR
    rw [HE.out, HF.out]
    exact ⟨rfl, H.out, OnlyX.refl _ _⟩
  have hb' : s.broken = false := by simpa using hb
  rw [hb'] at c9
  have HW := Lib.hid (fun w => within51 i 0 ((s.spec.length : Int) - 1) w)
  by_cases hi : 0 ≤ i ∧ i ≤ (s.spec.length : Int) - 1
  · obtain ⟨j, rfl⟩ := Int.eq_ofNat_of_zero_le hi.1
    have hj : j < s.spec.length := by omega
    obtain ⟨p, hp⟩ := getElem?_of_lt hj
    obtain ⟨b, off, hA, hbl, e0, e1, e2⟩ := h.sl.sp.par hp
    have hs1 := h.sl.sp1
    have hs2 := h.sl.sp2
    unfold maxLen at hs2
    rw [hA] at c3
    have HWV : Hid (∀ q, Calls Try.prog 87 #[.int .i64 v, .int .i64 p.lo, .int .i64 p.hi] (w.drewN q) fun e w' => e = .returned (.bool (inPar p v)) ∧ w' = w.drewN q) := fun q => within_q v p.lo p.hi (w.drewN q)
    rw [decide_eq_true hi] at HW
    have f0 : ∀ q, (w.drewN q).frozen? ⟨S.G, j, none⟩ = false := fun q => ((Below.drewN (Below.refl w.heap.size w) q).frozen (p := ⟨S.G, j, none⟩) h.gl.2).trans (h.sg.frozenAt j)
    obtain ⟨x, hx⟩ := getElem?_of_lt (l := s.staged) (k := j) (by rw [ho.tl]; omega)
    have d0 : w.cell? ⟨S.G, j, none⟩ = some (.int .i64 x) := by
      rw [h.sg.cellAt j (by rw [ho.tl]; omega)]
      simp [icells, hx]
    by_cases hv : inPar p v = true
    · have HE : Hid (setE s j v = 0) := by
        unfold setE
        rw [Hid, if_neg hb, if_neg (by omega), Int.toNat_natCast, hp, Option.getD_some, hv, if_neg (by decide)]
      have HF : Hid (setF s j v = { s with staged := s.staged.set j v }) := by unfold setF; rw [Hid, HE.out, if_pos rfl, Int.toNat_natCast]
      have HST : Hid (∀ q, StAt w0 ((w.drewN q).setCell ⟨S.G, j, none⟩ (.int .i64 v)) L S f { s with staged := s.staged.set j v } ∧ OnlyX (Own L S) w ((w.drewN q).setCell ⟨S.G, j, none⟩ (.int .i64 v))) := fun q => by
        have hb := Below.drewN (Below.refl w.heap.size w) q
        obtain ⟨a1, a2⟩ := (H.out.later hb).stage j v
        exact ⟨a1, (OnlyX.of_below hb).trans a2⟩
      rw [hv] at HWV
      generalize s.spec.length = n at *
      clear h ho hb hb' hi hp hA hx hv
      go_enter Try.func57, Try.ntmps57
      go_wp2_with (fail)
      (with_reducible refine (HW.out _).mono ?_)
      rintro e w1 ⟨rfl, rfl⟩
      go_wp2
      go_quiet ((go_at_call 87; with_reducible exact Calls.quiet_of_same (HWV.out _)))
      go_wp2
      go_ret
      unfold SetR
      rw [HE.out, HF.out]
      exact ⟨rfl, (HST.out _).1, (HST.out _).2⟩
    · have hv' : inPar p v = false := by simpa using hv
      have HE : Hid (setE s j v = 3) := by
        unfold setE
        rw [Hid, if_neg hb, if_neg (by omega), Int.toNat_natCast, hp, Option.getD_some, hv', if_pos rfl]
      have HF : Hid (setF s j v = s) := by unfold setF; rw [Hid, HE.out, if_neg (by decide)]
      rw [hv'] at HWV
      generalize s.spec.length = n at *
      clear h ho hb hb' hi hp hA hx hv hv' f0 d0
      go_enter Try.func57, Try.ntmps57
      go_wp2_with (fail)
      (with_reducible refine (HW.out _).mono ?_)
      rintro e w1 ⟨rfl, rfl⟩
      go_wp2
      go_quiet ((go_at_call 87; with_reducible exact Calls.quiet_of_same (HWV.out _)))
      go_wp2
      go_ret
      unfold SetR
      rw [HE.out, HF.out]
      exact ⟨rfl, H.out.later (Below.drewN (Below.refl _ _) _), OnlyX.of_below (Below.drewN (Below.refl _ _) _)⟩
  · have HE : Hid (setE s i v = 10) := by
      unfold setE
      rw [Hid, if_neg hb, if_pos (by omega)]
    have HF : Hid (setF s i v = s) := by unfold setF; rw [Hid, HE.out, if_neg (by decide)]
    rw [decide_eq_false hi] at HW
    generalize s.spec.length = n at *
    clear h ho hb hb' hi
    go_enter Try.func57, Try.ntmps57
    go_wp2_with (fail)
    (with_reducible refine (HW.out _).mono ?_)
    rintro e w1 ⟨rfl, rfl⟩
    go_wp2
    go_ret
    unfold SetR
    rw [HE.out, HF.out]
    exact ⟨rfl, H.out, OnlyX.refl _ _⟩
end
end Go.Proofs.Ytfeceamhlphelaa
