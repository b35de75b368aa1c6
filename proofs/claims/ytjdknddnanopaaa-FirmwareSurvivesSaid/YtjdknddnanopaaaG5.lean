/-
  The statement about what is refused.
-/
import Derived.Test.YtjdknddnanopaaaG4
namespace Go.Proofs.Ytjdknddnanopaaa
open Go.RowKit
set_option linter.unusedVariables false
set_option linter.unusedSimpArgs false

theorem BkOk.slot_any {f : Fl} {b : Bk} (ho : BkOk f b) (s : Nat) (hs : s ≤ 2) : BkOk f { b with slot := s } :=
  ⟨ho.ok, ho.sp, ho.fi, ho.bl, ho.lg, ho.br, ho.bk, ho.k1, ho.k8, ho.fw, ho.pg, hs, ho.dst, ho.ver, ho.len, ho.fed, ho.er, ho.dt, ho.page⟩
theorem beginB_ok {f : Fl} {b : Bk} (ho : BkOk f b) (hf : f.ok) (v n : Int) : BkOk f (beginB b f v n).1 := by
  unfold beginB
  split
  · exact rdy_ok ho
  split
  · exact rdy_ok ho
  split
  · exact rdy_ok ho
  split
  · exact rdy_ok ho
  rename_i hr
  have hr1 : 1 ≤ v ∧ v ≤ 1073741824 := Classical.byContradiction fun e => hr (.inl e)
  have hr2 : 1 ≤ n ∧ n ≤ (sizeF f b.blocks : Nat) := Classical.byContradiction fun e => hr (.inr e)
  have h' := rdy_ok ho
  refine ⟨h'.ok, h'.sp, h'.fi, h'.bl, h'.lg, h'.br, h'.bk, h'.k1, h'.k8, h'.fw, h'.pg, h'.slot, by show 1 - (savB b 0).toNat ≤ 1; omega, ⟨by show 0 ≤ v; omega, by show v ≤ 1073741824; exact hr1.2⟩, by show n.toNat ≤ sizeF f b.blocks; omega, Nat.zero_le _, fun e he => ?_, h'.dt, h'.page⟩
  have he' : e ∈ (List.range b.k).map fun (i : Nat) => ((blkB b (1 - (savB b 0).toNat) + i : Nat) : Int) := he
  obtain ⟨i, hi, rfl⟩ := List.mem_map.1 he'
  have hi := List.mem_range.1 hi
  have h1 : (1 - (savB b 0).toNat) * b.k ≤ 1 * b.k := Nat.mul_le_mul_right _ (by omega)
  have h2 := ho.fw
  have h3 := ho.bk
  have h4 := hf.b2
  unfold blkB
  omega

theorem is_any (c d : Int) (w : World) : Calls Try.prog 33 #[errV c, .int .i64 d] w fun e w' => e = .returned (.bool (if c = 0 then false else c == d)) ∧ w = w' := by
  by_cases hc : c = 0
  · rw [if_pos hc, hc, errV_zero]
    exact is_nil d w
  · rw [if_neg hc, errV_ne hc]
    exact is_err c d w
theorem is_yes52 (c : Int) (hc : c ≠ 0) (w : World) : Calls Try.prog 33 #[.iface 77 (.int .i64 c), .int .i64 c] w fun e w' => e = .returned (.bool true) ∧ w = w' :=
  (is_err c c w).mono (fun e w' hh => ⟨by rw [hh.1]; simp, hh.2⟩)

section
variable {w0 w w' : World} {L : Lc} {S : Sc} {K : Kc} {f : Fl} {b : Bk}
/-- A call that is refused leaves the bank as it was. -/
def Kept52 (w0 : World) (D : Nat) (f : Fl) (b : Bk) (w' : World) : Prop := ∃ L S K, K.D = D ∧ BkAt w0 w' L S K f b
theorem Kept52.of {b' : Bk} (h : BkTo w0 w L S K f b' w') {D : Nat} (hD : K.D = D) : Kept52 w0 D f b' w' := by
  obtain ⟨L', S', K', ha, hk⟩ := h
  exact ⟨L', S', K', ha.d.trans hD, hk⟩
theorem begin52 {D : Nat} (h : Kept52 w0 D f b w) (ho : BkOk f b) (v n : Int) (hn : I64 n) {q : Bk × Int} (hq : beginB b f v n = q) : Calls Try.prog 34 #[.pointer (some ⟨D, 0, none⟩), .int .i64 v, .int .i64 n] w fun e w' => e = .returned (errV q.2) ∧ Kept52 w0 D f q.1 w' := by
  obtain ⟨L, S, K, rfl, hk⟩ := h
  refine (fbegin_any hk ho v n hn).mono ?_
  rintro e w' ⟨he, hb⟩
  rw [hq] at he hb
  exact ⟨he, .of hb rfl⟩
theorem confirm52 {D : Nat} (h : Kept52 w0 D f b w) (ho : BkOk f b) (hrec : b.broken = false → b.record = false → b.st.busy = false) (hsq : b.st.seq ≤ 1000000) {q : Bk × Int} (hq : confirmB b f = q) : Calls Try.prog 30 #[.pointer (some ⟨D, 0, none⟩)] w fun e w' => e = .returned (errV q.2) ∧ Kept52 w0 D f q.1 w' := by
  obtain ⟨L, S, K, rfl, hk⟩ := h
  refine (fconfirm_any hk ho hrec hsq).mono ?_
  rintro e w' ⟨he, hb⟩
  rw [hq] at he hb
  exact ⟨he, .of hb rfl⟩
theorem boot52 {D : Nat} (h : Kept52 w0 D f b w) (ho : BkOk f b) {q : Bk × Fl × Int × Int} (hq : bootB b f = q) : Calls Try.prog 26 #[.pointer (some ⟨D, 0, none⟩)] w fun e w' => e = .returned (.tuple #[.int .i64 q.2.2.1, errV q.2.2.2]) ∧ Kept52 w0 D q.2.1 q.1 w' := by
  obtain ⟨L, S, K, rfl, hk⟩ := h
  refine (fboot_any hk ho).mono ?_
  rintro e w' ⟨he, hb⟩
  rw [hq] at he hb
  exact ⟨he, .of hb rfl⟩
theorem step52 {D : Nat} (h : Kept52 w0 D f b w) (ho : BkOk f b) {q : Bk × Fl × Bool × Int} (hq : stepB b f = q) : Calls Try.prog 35 #[.pointer (some ⟨D, 0, none⟩)] w fun e w' => e = .returned (.tuple #[.bool q.2.2.1, errV q.2.2.2]) ∧ Kept52 w0 D q.2.1 q.1 w' := by
  obtain ⟨L, S, K, rfl, hk⟩ := h
  refine (fstep_any hk ho).mono ?_
  rintro e w' ⟨he, hb⟩
  rw [hq] at he hb
  exact ⟨he, .of hb rfl⟩
theorem feed52n {D : Nat} (h : Kept52 w0 D f b w) (ho : BkOk f b) {q : Bk × Int} (hq : feedB b f [] = q) : Calls Try.prog 36 #[.pointer (some ⟨D, 0, none⟩), .slice none 0 0] w fun e w' => e = .returned (errV q.2) ∧ Kept52 w0 D f q.1 w' := by
  obtain ⟨L, S, K, rfl, hk⟩ := h
  refine (ffeed_any hk ho none 0 0 [] RdX.nil rfl (Nat.le_refl _) (Nat.zero_le _)).mono ?_
  rintro e w' ⟨he, hb⟩
  rw [hq] at he hb
  exact ⟨he, .of hb rfl⟩
theorem finish52 {D : Nat} (h : Kept52 w0 D f b w) (ho : BkOk f b) (hrec : b.broken = false → b.record = false → b.st.busy = false) (hsq : b.st.seq ≤ 1000000) (hl1 : b.upload = true → 1 ≤ b.length) (c : Int) (hc : 0 ≤ c ∧ c < 4294967296) {q : Bk × Int} (hq : finishB b f c = q) : Calls Try.prog 37 #[.pointer (some ⟨D, 0, none⟩), .int .u32 c] w fun e w' => e = .returned (errV q.2) ∧ Kept52 w0 D f q.1 w' := by
  obtain ⟨L, S, K, rfl, hk⟩ := h
  refine (ffinish_any hk ho hrec hsq hl1 c hc).mono ?_
  rintro e w' ⟨he, hb⟩
  rw [hq] at he hb
  exact ⟨he, .of hb rfl⟩
theorem abort52 {D : Nat} (h : Kept52 w0 D f b w) {q : Bk × Int} (hq : abortB b f = q) : Calls Try.prog 38 #[.pointer (some ⟨D, 0, none⟩)] w fun e w' => e = .returned (errV q.2) ∧ Kept52 w0 D f q.1 w' := by
  obtain ⟨L, S, K, rfl, hk⟩ := h
  refine (fabort_any hk).mono ?_
  rintro e w' ⟨he, hb⟩
  rw [hq] at he hb
  exact ⟨he, .of hb rfl⟩
theorem image52 {D : Nat} (h : Kept52 w0 D f b w) (ho : BkOk f b) (si : Int) {q : Bk × List Int × Int} (hq : imageB b f si = q) : Calls Try.prog 28 #[.pointer (some ⟨D, 0, none⟩), .int .i64 si] w fun e w' => ∃ A n c, e = .returned (.tuple #[.slice A n c, errV q.2.2]) ∧ q.2.1.length = n ∧ n ≤ c ∧ c ≤ maxLen ∧ Rd w' w'.heap.size A (kcells .u8 q.2.1) ∧ Kept52 w0 D f q.1 w' := by
  obtain ⟨L, S, K, rfl, hk⟩ := h
  refine (fimage_any hk ho si).mono ?_
  rintro e w' ⟨A, n, c, he, h1, h2, h3, h4, hb⟩
  rw [hq] at he hb h1 h4
  exact ⟨A, n, c, he, h1, h2, h3, (h4 (fun _ => False) (fun g hg => hg.elim)).rd, .of hb rfl⟩
theorem running52 {D : Nat} (h : Kept52 w0 D f b w) (ho : BkOk f b) {q : Int × Int} (hq : runB b = q) : Calls Try.prog 32 #[.pointer (some ⟨D, 0, none⟩)] w fun e w' => e = .returned (.tuple #[.int .i64 q.1, .int .i64 q.2]) ∧ Kept52 w0 D f b w' := by
  obtain ⟨L, S, K, rfl, hk⟩ := h
  refine (frunning_any hk ho).mono ?_
  rintro e w' ⟨he, hb⟩
  rw [hq] at he
  exact ⟨he, L, S, K, rfl, hk.later hb⟩
theorem trial52 {D : Nat} (h : Kept52 w0 D f b w) (ho : BkOk f b) {x y : Int} (hx : savB b 1 = x) (hy : savB b 2 = y) : Calls Try.prog 29 #[.pointer (some ⟨D, 0, none⟩)] w fun e w' => e = .returned (.tuple #[.int .i64 x, .int .i64 y]) ∧ Kept52 w0 D f b w' := by
  obtain ⟨L, S, K, rfl, hk⟩ := h
  refine (ftrial_any hk ho).mono ?_
  rintro e w' ⟨he, hb⟩
  rw [hx, hy] at he
  exact ⟨he, L, S, K, rfl, hk.later hb⟩
theorem Kept52.below {D : Nat} (h : Kept52 w0 D f b w) : Below w0.heap.size w0 w := by
  obtain ⟨L, S, K, rfl, hk⟩ := h
  exact hk.st.fl.below
end
end Go.Proofs.Ytjdknddnanopaaa
