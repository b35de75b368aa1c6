/-
  Params: a store's small functions.
-/
import Derived.Test.YtfeceamhlphelaaW38
namespace Go.Proofs.Ytfeceamhlphelaa
open Go.RowKit
set_option linter.unusedVariables false
set_option pp.deepTerms true

theorem eqq_some (d : Nat) (w : World) : (binOp .eql 88 (.pointer (some ⟨d, 0, none⟩)) (.pointer none)).run Try.prog w = .ok (.bool false) w := by kernel_rfl
theorem eqq_none (w : World) : (binOp .eql 88 (.pointer none) (.pointer none)).run Try.prog w = .ok (.bool true) w := by kernel_rfl

theorem RdX.par {X : Nat → Prop} {w : World} {A : Option Addr} {l : List Par} (h : RdX X w A (pcells l)) {k : Nat} {p : Par} (hp : l[k]? = some p) :
    ∃ b off, A = some ⟨b, off, none⟩ ∧ b < w.heap.size ∧ w.cell? ⟨b, off + k * 3, none⟩ = some (.int .i64 p.lo) ∧ w.cell? ⟨b, off + k * 3 + 1, none⟩ = some (.int .i64 p.hi) ∧ w.cell? ⟨b, off + k * 3 + 2, none⟩ = some (.int .i64 p.df) := by
  have g : ∀ j u, p.cells[j]? = some u → (pcells l)[k * 3 + j]? = some u := fun j u hu => flat_get Par.cells 3 (fun _ => rfl) l k j p u hp hu
  obtain ⟨b, off, e, hlt, _, hc⟩ := h (by
    intro e
    have := g 0 _ rfl
    rw [e] at this
    simp at this)
  exact ⟨b, off, e, hlt, hc _ _ (g 0 _ rfl), hc _ _ (g 1 _ rfl), hc _ _ (g 2 _ rfl)⟩

section
variable {w0 w : World} {L : Lc} {S : Sc} {f : Fl} {s : St}

theorem pages_q (h : FlAt w0 w L f) (q : Nat) : Calls Try.prog 43 #[.pointer (some ⟨L.d, 0, none⟩)] (w.drewN q) fun e w' => e = .returned (.int .i64 (f.pg : Nat)) ∧ w' = w.drewN q :=
  (pages_any (h.drewN q)).mono fun _ _ ⟨a, b⟩ => ⟨a, b.symm⟩
theorem pgs_q (n : Nat) (hn : n < 1000000000000) (w : World) : Calls Try.prog 88 #[.int .i64 (n : Int)] w fun e w' => e = .returned (.int .i64 (pgs n : Nat)) ∧ w' = w :=
  (pgs_any n hn w).mono fun _ _ ⟨a, b⟩ => ⟨a, b.symm⟩
theorem within_q (n lo hi : Int) (w : World) : Calls Try.prog 87 #[.int .i64 n, .int .i64 lo, .int .i64 hi] w fun e w' => e = .returned (.bool (decide (lo ≤ n ∧ n ≤ hi))) ∧ w' = w :=
  (within51 n lo hi w).mono fun _ _ ⟨a, b⟩ => ⟨a, b.symm⟩

theorem slots_h (hfl : FlAt w0 w L f) {D : Nat} {A : Option Addr} {n c : Nat} (c0 : w.cell? ⟨D, 0, none⟩ = some (.pointer (some ⟨L.d, 0, none⟩))) (c3 : w.cell? ⟨D, 3, none⟩ = some (.slice A n c)) (n1 : 1 ≤ n) (n2 : n ≤ 48) :
    Calls Try.prog 97 #[.pointer (some ⟨D, 0, none⟩)] w fun e w' => e = .returned (.int .i64 (f.pg / pgs n : Nat)) ∧ ∃ q, w' = w.drewN q := by
  have H43 := Lib.hid (pages_q hfl)
  have H88 := Lib.hid (fun w => pgs_q n (by omega) w)
  have hp := hfl.ok.p2
  have hk1 := pgs_pos n1
  have hk8 := pgs_le n2
  generalize hk : pgs n = k at *
  obtain ⟨T, hT'⟩ : ∃ T, f.pg / k = T := ⟨_, rfl⟩
  rw [hT']
  generalize f.pg = pg at *
  have hTl : T ≤ 16 := by rw [← hT']; exact Nat.le_trans (Nat.div_le_self _ _) hp
  have t1 : Hid (wrap64 ((pg : Int) / (k : Int)) = (T : Int)) := by
    rw [Hid, show (pg : Int) / (k : Int) = (T : Int) by rw [← hT']; push_cast; rfl]
    unfold wrap64
    omega
  have t2 : ((k : Int) == 0) = false := by simp; omega
  have t3 : ¬ (k = 0) := by omega
  clear hfl hk hT'
  go_enter Try.func97, Try.ntmps97
  go_wp2
  go_quiet ((first | (go_at_call 43; with_reducible exact Calls.quiet_of_same (H43.out _)) | (go_at_call 88; with_reducible exact Calls.quiet_of_same (H88.out _))))
  go_wp2
  go_ret
  refine ⟨?_, _, rfl⟩
  show Ending.returned (Value.int .i64 (wrap64 ((pg : Int) / (k : Int)))) = _
  rw [t1.out]
theorem slots_any (h : StAt w0 w L S f s) (ho : StOk f s) : Calls Try.prog 97 #[.pointer (some ⟨S.D, 0, none⟩)] w fun e w' => e = .returned (.int .i64 (slotsS s f : Nat)) ∧ ∃ q, w' = w.drewN q :=
  slots_h h.fl (h.row 0 _ rfl) (h.row 3 _ rfl) ho.n1 ho.n2

theorem spage_h (hfl : FlAt w0 w L f) {D fi : Nat} {A : Option Addr} {n c : Nat} (c0 : w.cell? ⟨D, 0, none⟩ = some (.pointer (some ⟨L.d, 0, none⟩))) (c1 : w.cell? ⟨D, 1, none⟩ = some (.int .i64 fi)) (c3 : w.cell? ⟨D, 3, none⟩ = some (.slice A n c)) (n1 : 1 ≤ n) (n2 : n ≤ 48) (hf : fi ≤ 64)
    (bi ji : Int) (b j : Nat) (hb : bi = b) (hj : ji = j) (hb2 : b < 1000) (hj2 : j < 1000) :
    Calls Try.prog 102 #[.pointer (some ⟨D, 0, none⟩), .int .i64 bi, .int .i64 ji] w fun e w' => e = .returned (.int .i64 ((fi + b) * f.pg + j * pgs n : Nat)) ∧ ∃ q, w' = w.drewN q := by
  subst hb hj
  have H43 := Lib.hid (pages_q hfl)
  have H88 := Lib.hid (fun w => pgs_q n (by omega) w)
  have hp := hfl.ok.p2
  have hk1 := pgs_pos n1
  have hk8 := pgs_le n2
  generalize hk : pgs n = k at *
  generalize f.pg = pg at *
  obtain ⟨u1, hu1⟩ : ∃ u, (fi + b) * pg = u := ⟨_, rfl⟩
  obtain ⟨u2, hu2⟩ : ∃ u, j * k = u := ⟨_, rfl⟩
  have hl1 : u1 ≤ 100000 := by rw [← hu1]; have := Nat.mul_le_mul (show fi + b ≤ 1064 by omega) hp; omega
  have hl2 : u2 ≤ 100000 := by rw [← hu2]; have := Nat.mul_le_mul (show j ≤ 1000 by omega) hk8; omega
  have t0 : IntKind.i64.wrap ((fi : Int) + (b : Int)) = (fi : Int) + (b : Int) := IntWalk.i64_in _ (by omega)
  have t1 : IntKind.i64.wrap (((fi : Int) + (b : Int)) * (pg : Int)) = (u1 : Int) := by
    rw [show ((fi : Int) + (b : Int)) * (pg : Int) = (u1 : Int) by rw [← hu1]; push_cast; rfl]
    exact IntWalk.i64_in _ (by omega)
  have t2 : IntKind.i64.wrap ((j : Int) * (k : Int)) = (u2 : Int) := by
    rw [show (j : Int) * (k : Int) = (u2 : Int) by rw [← hu2]; push_cast; rfl]
    exact IntWalk.i64_in _ (by omega)
  have t3 : IntKind.i64.wrap ((u1 : Int) + (u2 : Int)) = (u1 : Int) + (u2 : Int) := IntWalk.i64_in _ (by omega)
  rw [hu1, hu2]
  clear hfl hk hu1 hu2
  go_enter Try.func102, Try.ntmps102
  go_wp2
  go_quiet ((first | (go_at_call 43; with_reducible exact Calls.quiet_of_same (H43.out _)) | (go_at_call 88; with_reducible exact Calls.quiet_of_same (H88.out _))))
  go_wp2
  go_ret
  exact ⟨by go_num, _, rfl⟩
theorem spage_any (h : StAt w0 w L S f s) (ho : StOk f s) (bi ji : Int) (b j : Nat) (hb : bi = b) (hj : ji = j) (hb2 : b < 1000) (hj2 : j < 1000) :
    Calls Try.prog 102 #[.pointer (some ⟨S.D, 0, none⟩), .int .i64 bi, .int .i64 ji] w fun e w' => e = .returned (.int .i64 (pageS s f b j : Nat)) ∧ ∃ q, w' = w.drewN q :=
  spage_h h.fl (h.row 0 _ rfl) (h.row 1 _ rfl) (h.row 3 _ rfl) ho.n1 ho.n2 (by have := ho.fb; have := h.fl.ok.b2; omega) bi ji b j hb hj hb2 hj2

theorem sequence_any (h : StAt w0 w L S f s) : Calls Try.prog 63 #[.pointer (some ⟨S.D, 0, none⟩)] w fun e w' => e = .returned (.int .i64 s.seq) ∧ w = w' := by
  have h1 := eqq_some S.D
  have c6 := h.row 6 _ rfl
  clear h
  go_enter Try.func63, Try.ntmps63
  go_wp2
  go_ret
  exact ⟨rfl, rfl⟩
theorem broken_any (h : StAt w0 w L S f s) : Calls Try.prog 64 #[.pointer (some ⟨S.D, 0, none⟩)] w fun e w' => e = .returned (.bool s.broken) ∧ w = w' := by
  have h1 := eqq_some S.D
  have c9 := h.row 9 _ rfl
  clear h
  go_enter Try.func64, Try.ntmps64
  go_wp2
  go_ret
  exact ⟨rfl, rfl⟩
theorem saved_any (h : StAt w0 w L S f s) (ho : StOk f s) : Calls Try.prog 62 #[.pointer (some ⟨S.D, 0, none⟩)] w fun e w' => ∃ v', e = .returned v' ∧ w'.ownsRow w.heap.size 3 1 v' s.spec.length (icells s.saved) ∧ Below w.heap.size w w' := by
  have h1 := eqq_some S.D
  have c4 := h.row 4 _ rfl
  have HC := Lib.hid (clone3_any S.Av s.saved.length S.cv w.heap.size s.saved w h.sl.sv.rd (Nat.le_refl _) rfl (by rw [ho.sl]; have := ho.n2; omega))
  rw [ho.sl] at HC c4
  clear h ho
  go_enter Try.func62, Try.ntmps62
  go_wp2_with (fail)
  (with_reducible refine HC.out.mono ?_)
  rintro e w1 ⟨v', rfl, ho, hb⟩
  have HO := Lib.hid ho
  have HB := Lib.hid hb
  clear ho hb
  go_wp2
  go_ret
  exact ⟨v', rfl, HO.out, HB.out⟩

theorem get_any (h : StAt w0 w L S f s) (ho : StOk f s) (i : Int) : Calls Try.prog 61 #[.pointer (some ⟨S.D, 0, none⟩), .int .i64 i] w fun e w' => e = .returned (.tuple #[.int .i64 (getF s i).1, errV (getF s i).2]) ∧ w = w' := by
  have h1 := eqq_some S.D
  have c3 := h.row 3 _ rfl
  have c5 := h.row 5 _ rfl
  have hn1 := ho.n1
  have hn2 := ho.n2
  have hcg := h.cg
  unfold maxLen at hcg
  obtain ⟨hg1, hg2⟩ := hcg
  rw [ho.tl] at c5 hg1
  have HW := Lib.hid (fun w => within51 i 0 ((s.spec.length : Int) - 1) w)
  by_cases hi : 0 ≤ i ∧ i ≤ (s.spec.length : Int) - 1
  · obtain ⟨j, rfl⟩ := Int.eq_ofNat_of_zero_le hi.1
    obtain ⟨x, hx⟩ := getElem?_of_lt (l := s.staged) (k := j) (by rw [ho.tl]; omega)
    have e0 : w.cell? ⟨S.G, j, none⟩ = some (.int .i64 x) := by
      rw [h.sg.cellAt j (by rw [ho.tl]; omega)]
      simp [icells, hx]
    have HF : Hid (getF s j = (x, 0)) := by
      unfold getF
      rw [Hid, if_neg (by omega), Int.toNat_natCast, hx]
      rfl
    rw [decide_eq_true hi] at HW
    have hj : j < s.spec.length := by omega
    generalize s.spec.length = n at *
    clear h ho hx hi
    go_enter Try.func61, Try.ntmps61
    go_wp2_with (fail)
    (with_reducible refine (HW.out _).mono ?_)
    rintro e w1 ⟨rfl, rfl⟩
    go_wp2
    go_ret2
    exact ⟨by rw [HF.out]; rfl, rfl⟩
  · have HF : Hid (getF s i = (0, 10)) := by
      unfold getF
      rw [Hid, if_pos (by omega)]
    rw [decide_eq_false hi] at HW
    generalize s.spec.length = n at *
    clear h ho hi
    go_enter Try.func61, Try.ntmps61
    go_wp2_with (fail)
    (with_reducible refine (HW.out _).mono ?_)
    rintro e w1 ⟨rfl, rfl⟩
    go_wp2
    go_ret2
    exact ⟨by rw [HF.out]; rfl, rfl⟩
end
end Go.Proofs.Ytfeceamhlphelaa
