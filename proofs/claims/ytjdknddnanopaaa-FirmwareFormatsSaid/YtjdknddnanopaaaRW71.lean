
/-
  The reference of layer 51: Open, values made legal.
-/
import Derived.Test.YtjdknddnanopaaaRW69
import Derived.Test.YtjdknddnanopaaaPlainZ
namespace Go.Proofs.Ytjdknddnanopaaa
open Go.RowKit
set_option linter.unusedVariables false
set_option linter.unusedSimpArgs false
/-- The values, of which the first are legal. -/
def lgt (sp : List Par) (raw : List Int) (t : Nat) : List Int := (legal sp raw).take t ++ raw.drop t
theorem legal_len9 {sp : List Par} {raw : List Int} (h : raw.length = sp.length) : (legal sp raw).length = sp.length := by unfold legal; rw [List.length_zipWith]; omega
theorem lgt_len {sp : List Par} {raw : List Int} (h : raw.length = sp.length) {t : Nat} (ht : t ≤ sp.length) : (lgt sp raw t).length = sp.length := by
  unfold lgt
  rw [List.length_append, List.length_take, legal_len9 h, List.length_drop]
  omega
theorem lgt_zero (sp : List Par) (raw : List Int) : lgt sp raw 0 = raw := by unfold lgt; simp
theorem lgt_end {sp : List Par} {raw : List Int} (h : raw.length = sp.length) : lgt sp raw sp.length = legal sp raw := by
  unfold lgt
  rw [List.take_of_length_le (by rw [legal_len9 h]; exact Nat.le_refl _), List.drop_of_length_le (by omega), List.append_nil]
theorem lgt_at {sp : List Par} {raw : List Int} (h : raw.length = sp.length) {t : Nat} {x : Int} (hx : raw[t]? = some x) : (lgt sp raw t)[t]? = some x := by
  have ht := (List.getElem?_eq_some_iff.1 hx).1
  unfold lgt
  rw [List.getElem?_append_right (by rw [List.length_take, legal_len9 h]; omega), List.length_take, legal_len9 h, List.getElem?_drop]
  rw [show t + (t - min t sp.length) = t by omega]
  exact hx
theorem lgt_succ {sp : List Par} {raw : List Int} (h : raw.length = sp.length) {t : Nat} {x : Int} {p : Par} (hx : raw[t]? = some x) (hp : sp[t]? = some p) : lgt sp raw (t + 1) = (lgt sp raw t).set t (legalP p x) := by
  have ht := (List.getElem?_eq_some_iff.1 hx).1
  have hl : (legal sp raw)[t]? = some (legalP p x) := by
    unfold legal
    rw [List.getElem?_zipWith, hp, hx]
  unfold lgt
  rw [take_snoc_get _ t _ hl, drop_cons_get raw t x hx, List.set_append_right _ _ (by rw [List.length_take]; omega), List.length_take, legal_len9 h, show t - min t sp.length = 0 by omega]
  simp
theorem set_get_same {l : List Int} {t : Nat} {x : Int} (h : l[t]? = some x) : l.set t x = l := by
  apply List.ext_getElem?
  intro i
  rw [List.getElem?_set]
  split
  · rename_i e
    subst e
    rw [h]
    have := (List.getElem?_eq_some_iff.1 h).1
    rw [if_pos this]
  · rfl
section
variable {w wr : World} {D4 D8 D n cq cs : Nat} {x : Rc} {g : Fl} {fi bl seq blk slot : Int} {Q Qs : Option Addr} {sp : List Par} {raw : List Int}
theorem RsI.svset {gs : Nat} (h : RsI w wr D4 D8 D x g fi bl Q n cq sp (some ⟨gs, 0, none⟩) cs raw seq blk slot) (t : Nat) (y : Int) : RsI w (wr.setCell ⟨gs, t, none⟩ (.int .i64 y)) D4 D8 D x g fi bl Q n cq sp (some ⟨gs, 0, none⟩) cs (raw.set t y) seq blk slot := by
  have hst := h.sv.stored t (.int .i64 y)
  have hg := (h.sv.lt _ rfl).1
  refine ⟨h.below.setCell (p := ⟨gs, t, none⟩) hg _, kept_of h.o4 hst.2 (fun g' hg' e' => own_ne_own h.sv h.o4 (by decide) g' e' hg'), kept_of h.o8 hst.2 (fun g' hg' e' => own_ne_own h.sv h.o8 (by decide) g' e' hg'), ?_, kept_of h.sp hst.2 (fun g' hg' e' => own_ne_own h.sv h.sp (by decide) g' e' hg'), ?_, h.ne⟩
  · rw [List.length_set]
    exact kept_of h.o hst.2 (fun g' hg' e' => own_ne_own h.sv h.o (by decide) g' e' hg')
  · rw [List.length_set]
    have e : icells (raw.set t y) = (icells raw).set t (.int .i64 y) := by simp [icells]
    rw [e]
    exact hst.1
end
end Go.Proofs.Ytjdknddnanopaaa
