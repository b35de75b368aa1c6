/-
  Firmware: Boot without a failure; a confirmation and its record. No program in sight.
-/
import Derived.Test.YtjdknddnanopaaaH5
namespace Go.Proofs.Ytjdknddnanopaaa
open Go.RowKit
set_option linter.unusedVariables false

theorem con_ne {u : List Int} (hl : u.length = 9) {s : Nat} (ht : u[1]?.getD 0 = (s : Int)) (hs : s ≠ 2) : conV u s ≠ u := by
  match u, hl with
  | [a, t, k, v0, l0, c0, v1, l1, c1], _ =>
    simp only [List.getElem?_cons_succ, List.getElem?_cons_zero, Option.getD_some] at ht
    intro e
    simp [conV, setV] at e
    omega
theorem conf_ok {f : Fl} {b : Bk} (ho : BkOk f b) (hb : b.st.broken = false) (hs : b.slot ≤ 1) : setOk b.st 0 [(b.slot : Int), 2, 0] := by
  have hsp := ho.sp
  obtain ⟨N, hN⟩ : ∃ N, sizeF f b.blocks = N := ⟨_, rfl⟩
  rw [hN] at hsp
  have key : ∀ (s : St) (i : Nat) (p : Par) (v : Int), s.broken = false → s.spec = fwSpec N → (fwSpec N)[i]? = some p → p.lo ≤ v ∧ v ≤ p.hi → setE s (i : Int) v = 0 ∧ (setF s (i : Int) v).broken = false ∧ (setF s (i : Int) v).spec = fwSpec N := fun s i p v h1 h2 h3 h4 => by
    obtain ⟨x1, x2⟩ := set_fw h1 h2 h3 h4
    exact ⟨x1, by rw [x2]; exact h1, by rw [x2]; exact h2⟩
  obtain ⟨a1, a2, a3⟩ := key b.st 0 ⟨0, 1, 0⟩ (b.slot : Int) hb hsp rfl ⟨by simp only; omega, by simp only; omega⟩
  obtain ⟨b1, b2, b3⟩ := key _ 1 ⟨0, 2, 2⟩ 2 a2 a3 rfl ⟨by simp only; omega, by simp only; omega⟩
  obtain ⟨c1, c2, c3⟩ := key _ 2 ⟨0, 3, 0⟩ 0 b2 b3 rfl ⟨by simp only; omega, by simp only; omega⟩
  exact ⟨a1, b1, c1, trivial⟩
theorem confirm_end {f : Fl} {b : Bk} {n : Int} (h : BkJ f b n) (hr : Rest f b) (hs : b.slot ≤ 1) (ht : savB b 1 = (b.slot : Int)) (hbu : b.st.busy = false) (hst : b.st.staged = b.st.saved) (hsq : n ≤ 1000000) :
    (confirmB b f).2 = 0 ∧ EndR f b n (conV b.st.saved b.slot) (stepsB 40 (confirmB b f).1 f) := by
  have hdn := h.dn hr.br
  have hrd := rdyB_up hr.br hdn
  have hsb : b.st.broken = false := by rcases h.ok.br with e | e; exact e; rw [hr.br] at e; cases e
  have hq : confirmB b f = (recB b (confS b) f, 0) := by
    unfold confirmB
    rw [hrd, if_neg (by rw [hr.br]; decide), if_neg (by rw [ht]; simp; omega), if_neg (by rw [hr.work]; decide)]
  have hJ := confirmB_J h
  have hk := conf_ok h.ok hsb hs
  have hl9 : b.st.saved.length = 9 := by rw [h.ok.ok.sl, h.ok.sp]; rfl
  have hus : (confS b).staged = conV b.st.saved b.slot := by
    unfold confS conV
    rw [setN_staged _ hk, hst]
  have hlv : Live f b.st := (h.lv hr.br hdn).1
  obtain ⟨m1, m2, m3, m4, -⟩ := setN_keeps [(b.slot : Int), 2, 0] b.st 0
  have hI : ∀ x ∈ [(b.slot : Int), 2, 0], I64 x := fun x hx => by
    simp only [List.mem_cons, List.not_mem_nil, or_false] at hx
    rcases hx with rfl | rfl | rfl <;> (unfold I64; omega)
  rw [hq] at hJ ⊢
  exact ⟨rfl, rec_end h hr hbu hsq hJ (m2.trans hbu) (m1.trans hsb) m4 m3 (setN_live hlv hI) hus (con_ne hl9 ht (by omega))⟩

/-- A commit without a failure keeps what is staged. -/
theorem Live.commit_up2 {f : Fl} {s : St} (h : Live f s) (hf : f.fuse = -1) (hb : s.busy = false) (hq : s.seq ≤ 1000000) (hne : s.staged ≠ s.saved) :
    (commitS s f).1.staged = s.staged := by
  have hst := commitS_still ⟨h.up, hf⟩ s
  have he : beginE s f = 0 := by
    unfold beginE
    rw [h.br, h.up, if_neg (by decide), hb, if_neg (by decide), if_neg hne]
    have h1 := h.ok.q1
    have h2 := h.ok.tl
    have h3 := h.ok.n1
    have h4 := h.ok.n2
    unfold encE
    rw [if_neg (by omega)]
  have hc : commitS s f = runS 10 (beginS s f) f := by unfold commitS; rw [if_neg (by rw [he]; decide)]
  obtain ⟨e1, e2, e3, e4, _⟩ := begin_fields he
  have hr := h.begin.run e1 (begin_left h.ok he)
  rw [← hc] at hr
  cases hr with
  | last b1 b2 b3 b4 b5 => exact b5.trans e4
  | dead b1 b2 b3 b4 => rw [b2.dn] at hst; cases hst.1

/-- What Boot writes, and the slot that it runs. -/
def bootV (u : List Int) : List Int × Int :=
  if u[1]?.getD 0 = 2 then (u, u[0]?.getD 0) else if (0 : Int) < u[2]?.getD 0 then (u.set 2 (u[2]?.getD 0 - 1), u[1]?.getD 0) else (u.set 1 2, u[0]?.getD 0)
theorem bootV_eq (b : Bk) : bootV b.st.saved = if savB b 1 = 2 then (b.st.saved, savB b 0) else if 0 < savB b 2 then (b.st.saved.set 2 (savB b 2 - 1), savB b 1) else (b.st.saved.set 1 2, savB b 0) := rfl
/-- A bank that was booted, without a failure. -/
structure BootU (f : Fl) (b : Bk) (n : Int) (q : Bk × Fl × Int × Int) : Prop where
  code : q.2.2.2 = 0
  run : q.2.2.1 = (bootV b.st.saved).2
  J : BkJ q.2.1 q.1 (n + 1)
  rs : Rest q.2.1 q.1
  up : q.2.1.up
  sh : Shape f q.2.1
  far : ∀ x, x < b.first * f.pg ∨ (b.first + 2) * f.pg ≤ x → pageF q.2.1 x = pageF f x
  first : q.1.first = b.first
  blocks : q.1.blocks = b.blocks
  slot : (q.1.slot : Int) = (bootV b.st.saved).2
  upl : q.1.upload = b.upload
  bu : q.1.st.busy = false
  sg : q.1.st.staged = q.1.st.saved
  sv : q.1.st.saved = (bootV b.st.saved).1
theorem boot_up {f : Fl} {b : Bk} {n : Int} (h : BkJ f b n) (hr : Rest f b) (hu : f.up) (hs : b.slot = 2) (hbu : b.st.busy = false) (hst : b.st.staged = b.st.saved) (hsq : n ≤ 1000000) : BootU f b n (bootB b f) := by
  have hdn := hu.dn
  have hrd := rdyB_up hr.br hdn
  have hJ := bootB_J h
  obtain ⟨va, vt, vk, v0, l0, c0, v1, l1, c1, hv, b1, b2, b3, -⟩ := h.ok.vec
  have hv0 : savB b 0 = (va : Int) := by unfold savB; rw [hv]; rfl
  have hv1 : savB b 1 = (vt : Int) := by unfold savB; rw [hv]; rfl
  have hv2 : savB b 2 = (vk : Int) := by unfold savB; rw [hv]; rfl
  have hsb : b.st.broken = false := by rcases h.ok.br with e | e; exact e; rw [hr.br] at e; cases e
  by_cases h2 : savB b 1 = 2
  · have hq := boot_plain hr.br hdn hs hv0 h2
    have hV : bootV b.st.saved = (b.st.saved, (va : Int)) := by
      rw [bootV_eq, if_pos h2, hv0]
    rw [hq] at hJ ⊢
    exact ⟨rfl, by rw [hV], hJ, ⟨hr.br, hr.er, hr.da, hr.rc⟩, hu, Shape.refl f, fun _ _ => rfl, rfl, rfl, by rw [hV], rfl, hbu, hst, by rw [hV]⟩
  have hl : Live f b.st := (h.lv hr.br hdn).1
  obtain ⟨N, hN⟩ : ∃ N, sizeF f b.blocks = N := ⟨_, rfl⟩
  have hsp := h.ok.sp
  rw [hN] at hsp
  have key : ∀ (i : Nat) (p : Par) (v : Int), (fwSpec N)[i]? = some p → p.lo ≤ v ∧ v ≤ p.hi → I64 v → b.st.saved.set i v ≠ b.st.saved →
      (commitS (setF b.st (i : Int) v) f).2.2 = 0 ∧ Surv (commitS (setF b.st (i : Int) v) f).2.1 (commitS (setF b.st (i : Int) v) f).1 (b.st.saved.set i v) none ∧ (commitS (setF b.st (i : Int) v) f).2.1.up ∧ (commitS (setF b.st (i : Int) v) f).1.staged = b.st.saved.set i v ∧
      Shape f (commitS (setF b.st (i : Int) v) f).2.1 ∧ ∀ x, x < b.first * f.pg ∨ (b.first + 2) * f.pg ≤ x → pageF (commitS (setF b.st (i : Int) v) f).2.1 x = pageF f x := fun i p v hp hv hi hne => by
    obtain ⟨x1, x2⟩ := set_fw hsb hsp hp hv
    have hls : Live f (setF b.st (i : Int) v) := hl.set hi
    have e1 : (setF b.st (i : Int) v).staged = b.st.saved.set i v := by rw [x2]; show b.st.staged.set i v = _; rw [hst]
    have e2 : (setF b.st (i : Int) v).saved = b.st.saved := by rw [x2]
    have e3 : (setF b.st (i : Int) v).busy = false := by rw [x2]; exact hbu
    have e4 : (setF b.st (i : Int) v).seq ≤ 1000000 := by rw [x2]; show b.st.seq ≤ _; have := h.sq; omega
    obtain ⟨y1, y2, y3⟩ := hls.commit_up hu.fu e3 e4 (by rw [e1, e2]; exact hne)
    have y4 := hls.commit_up2 hu.fu e3 e4 (by rw [e1, e2]; exact hne)
    rw [e1] at y2 y4
    refine ⟨y1, y2, y3, y4, commitS_shape _ _, fun x hx => (commitS_far hu.ok hls.ok ?_).1⟩
    rw [show (setF b.st (i : Int) v).first = b.first by rw [x2]; exact h.ok.fi, show (setF b.st (i : Int) v).blocks = 2 by rw [x2]; exact h.ok.bl]
    exact hx
  by_cases hk : 0 < savB b 2
  · have hne : b.st.saved.set 2 (savB b 2 - 1) ≠ b.st.saved := by
      rw [hv]
      rw [hv2]
      intro e
      simp at e
      omega
    obtain ⟨y1, y2, y3, y4, y5, y6⟩ := key 2 ⟨0, 3, 0⟩ (savB b 2 - 1) rfl (by rw [hv2] at hk ⊢; simp only; omega) (by rw [hv2] at hk ⊢; unfold I64; omega) hne
    have hV : bootV b.st.saved = (b.st.saved.set 2 (savB b 2 - 1), savB b 1) := by
      rw [bootV_eq, if_neg h2, if_pos hk]
    have hq : bootB b f = ({ b with st := (commitS (setF b.st ((2 : Nat) : Int) (savB b 2 - 1)) f).1, slot := (savB b 1).toNat }, (commitS (setF b.st ((2 : Nat) : Int) (savB b 2 - 1)) f).2.1, savB b 1, 0) := by
      unfold bootB
      rw [hrd, if_neg (by rw [hr.br]; decide), if_neg (by rw [hs]; simp), if_neg h2]
      simp only [if_pos hk]
      rw [if_neg (by rw [show ((2 : Nat) : Int) = 2 from rfl] at y1; rw [y1]; simp)]
      rfl
    obtain ⟨z1, z2⟩ := y2.none_live
    rw [hq] at hJ ⊢
    exact ⟨rfl, by rw [hV], hJ, ⟨hr.br, hr.er, hr.da, hr.rc⟩, y3, y5, y6, rfl, rfl, by rw [hV]; show (((savB b 1).toNat : Nat) : Int) = savB b 1; rw [hv1]; rfl, rfl, z2, by rw [show (commitS (setF b.st ((2 : Nat) : Int) (savB b 2 - 1)) f).1.saved = _ from y2.1]; exact y4, by rw [hV]; exact y2.1⟩
  · have hne : b.st.saved.set 1 2 ≠ b.st.saved := by
      rw [hv1] at h2
      rw [hv]
      intro e
      simp at e
      omega
    obtain ⟨y1, y2, y3, y4, y5, y6⟩ := key 1 ⟨0, 2, 2⟩ 2 rfl (by simp only; omega) (by unfold I64; omega) hne
    have hV : bootV b.st.saved = (b.st.saved.set 1 2, savB b 0) := by
      rw [bootV_eq, if_neg h2, if_neg hk]
    have hq : bootB b f = ({ b with st := (commitS (setF b.st ((1 : Nat) : Int) 2) f).1, slot := (savB b 0).toNat }, (commitS (setF b.st ((1 : Nat) : Int) 2) f).2.1, savB b 0, 0) := by
      unfold bootB
      rw [hrd, if_neg (by rw [hr.br]; decide), if_neg (by rw [hs]; simp), if_neg h2]
      simp only [if_neg hk]
      rw [if_neg (by rw [show ((1 : Nat) : Int) = 1 from rfl] at y1; rw [y1]; simp)]
      rfl
    obtain ⟨z1, z2⟩ := y2.none_live
    rw [hq] at hJ ⊢
    exact ⟨rfl, by rw [hV], hJ, ⟨hr.br, hr.er, hr.da, hr.rc⟩, y3, y5, y6, rfl, rfl, by rw [hV]; show (((savB b 0).toNat : Nat) : Int) = savB b 0; rw [hv0]; rfl, rfl, z2, by rw [show (commitS (setF b.st ((1 : Nat) : Int) 2) f).1.saved = _ from y2.1]; exact y4, by rw [hV]; exact y2.1⟩
end Go.Proofs.Ytjdknddnanopaaa
