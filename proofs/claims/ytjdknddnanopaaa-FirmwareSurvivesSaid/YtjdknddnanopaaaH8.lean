/-
  Firmware: what a round does to the flash. No program in sight.
-/
import Derived.Test.YtjdknddnanopaaaH7
namespace Go.Proofs.Ytjdknddnanopaaa
open Go.RowKit
set_option linter.unusedVariables false

theorem far0 {f : Fl} {x : Nat} (h : 2 * f.pg ≤ x) {b : Bk} (h0 : b.first = 0) : x < b.first * f.pg ∨ (b.first + 2) * f.pg ≤ x := by
  right
  rw [h0, Nat.zero_add]
  exact h
theorem Opn.boot {f : Fl} {k P : Nat} {n : Int} {b : Bk} (h : Opn f k P n b) (hu : f.up) (hs : b.slot = 2) (hn : n ≤ 1000000) {C : List Int} {T : Option (List Int)} (hg : Gd f k C T b.st.saved) :
    ∃ (run : Nat) (X : List Int), (bootB b f).2.2 = ((run : Int), 0) ∧ (bootB b f).2.1.up ∧ Opn (bootB b f).2.1 k P (n + 1) (bootB b f).1 ∧ (bootB b f).1.slot = run ∧ Bt (bootB b f).2.1 k C T (bootB b f).1.st.saved run X ∧ imageB (bootB b f).1 (bootB b f).2.1 (run : Int) = ((bootB b f).1, X, 0) := by
  obtain ⟨run, X, h1, h2, h3⟩ := hg.boot h.len
  have hb := boot_up h.J h.rs hu hs h.bu h.sg hn
  obtain ⟨q, hq⟩ : ∃ q, bootB b f = q := ⟨_, rfl⟩
  rw [hq] at hb ⊢
  have ho : Opn q.2.1 k P (n + 1) q.1 := ⟨hb.J, hb.rs, hb.first.trans h.first, hb.blocks.trans h.blocks, hb.sh.p.trans h.pg, hb.sh.w.trans h.wl, h.k1, h.k8, h.p2, hb.upl.trans h.upl, hb.bu, hb.sg⟩
  have hbt : Bt q.2.1 k C T q.1.st.saved run X := by
    rw [hb.sv]
    exact h3.far hb.sh.p (fun x hx => hb.far x (far0 hx h.first))
  have hh := hbt.hd
  refine ⟨run, X, ?_, hb.up, ho, ?_, hbt, ?_⟩
  · have e1 := hb.run
    have e2 := hb.code
    rw [h2] at e1
    rw [← e1, ← e2]
  · have := hb.slot
    rw [h2] at this
    omega
  · exact image_plain hb.rs.br hb.up.dn h1 hh.ln hh.l1 (.inl ho.upl) (by rw [imgB_slot ho.first ho.k]; exact hh.im) hh.sm
theorem BkJ.fuse {f : Fl} {b : Bk} {n : Int} (h : BkJ f b n) {m : Int} {p : List Int} (hp : Bytes p) (hm : m < 9223372036854775808) : BkJ (fuseF f m p) b n := by
  have hok := fuseF_ok (n := m) h.fo hp hm
  have ho := h.ok
  obtain ⟨o, hs⟩ := h.sto
  exact ⟨⟨ho.ok.shape ⟨rfl, rfl⟩, ho.sp, ho.fi, ho.bl, ho.lg, ho.br, ho.bk, ho.k1, ho.k8, ho.fw, ho.pg, ho.slot, ho.dst, ho.ver, ho.len, ho.fed, ho.er, ho.dt, ho.page⟩, hok, fun hb hd => ⟨(h.lv hb hd).1.fl rfl rfl rfl rfl hok, (h.lv hb hd).2⟩, h.dn, ⟨o, hs.fuse h.fo hp hm⟩, h.er2, h.pg2, h.sq, h.ul⟩
theorem Rest.fuse {f g : Fl} {b : Bk} (h : Rest f b) : Rest g b := ⟨h.br, h.er, h.da, h.rc⟩
theorem Opn.fuse {f : Fl} {k P : Nat} {n : Int} {b : Bk} (h : Opn f k P n b) {m : Int} {p : List Int} (hp : Bytes p) (hm : m < 9223372036854775808) : Opn (fuseF f m p) k P n b :=
  ⟨h.J.fuse hp hm, h.rs.fuse, h.first, h.blocks, h.pg, h.wl, h.k1, h.k8, h.p2, h.upl, h.bu, h.sg⟩
theorem sto_of {f g : Fl} {b c : Bk} {n : Int} (h : BkJ f b n) (hc : b.st = c.st) (hbu : c.st.busy = false) : Sto f c.st none := by
  obtain ⟨o, hs⟩ := h.sto
  rw [hc] at hs
  rcases hs with ⟨h1, h2⟩ | ⟨h1, h2⟩
  · rw [hbu] at h2
    exact .inl ⟨h1, by rw [hbu]; rfl⟩
  · have := h1.bu
    rw [hbu] at this
    cases this
theorem Opn.idle {f : Fl} {k P : Nat} {n : Int} {b : Bk} (h : Opn f k P n b) {G : List Int → Prop} (hg : G b.st.saved) : Rnd f k P G n :=
  ⟨h.J.fo, h.pg, h.wl, h.k1, h.k8, h.p2, b.st, none, sto_of (g := f) h.J rfl h.bu, h.sp, h.J.ok.fi.trans h.first, h.J.ok.bl, h.J.sq, hg, fun u hu => by cases hu⟩
theorem Opn.rnd {f g : Fl} {k P : Nat} {n m : Int} {b c : Bk} (h : Opn f k P n b) (hJ : BkJ g c m) (hsh : Shape f g) (hfi : c.first = b.first) (hbl : c.blocks = b.blocks) {v : List Int} {o : Option (List Int)} (hs : Surv g c.st v o) {G : List Int → Prop} (h1 : G v) (h2 : ∀ u, o = some u → G u) : Rnd g k P G m := by
  refine ⟨hJ.fo, hsh.p.trans h.pg, hsh.w.trans h.wl, h.k1, h.k8, h.p2, c.st, o, hs.sto, ?_, hJ.ok.fi.trans (hfi.trans h.first), hJ.ok.bl, hJ.sq, ?_, h2⟩
  · rw [hJ.ok.sp, hbl, h.blocks]
    unfold sizeF
    rw [hsh.p, h.pg, show (2 * k + 2 - 2) / 2 = k by omega]
  · rw [hs.1]; exact h1

theorem con_get {u : List Int} (hl : u.length = 9) (s : Nat) : (conV u s)[0]?.getD 0 = (s : Int) ∧ (conV u s)[1]?.getD 0 = 2 ∧ ∀ j, 3 ≤ j → (conV u s)[j]?.getD 0 = u[j]?.getD 0 := by
  match u, hl with
  | [a, t, k, v0, l0, c0, v1, l1, c1], _ =>
    refine ⟨rfl, rfl, fun j hj => ?_⟩
    match j, hj with
    | j + 3, _ => rfl
theorem fin_get {u : List Int} (hl : u.length = 9) {D : Nat} (hD : D ≤ 1) (v : Int) (n : Nat) (c : Int) : (finV u D v n c)[0]?.getD 0 = u[0]?.getD 0 ∧ (finV u D v n c)[1]?.getD 0 = (D : Int) ∧ (finV u D v n c)[2]?.getD 0 = 3 ∧ (finV u D v n c)[4 + 3 * D]?.getD 0 = (n : Int) ∧ (finV u D v n c)[5 + 3 * D]?.getD 0 = c ∧
    (finV u D v n c)[4 + 3 * (1 - D)]?.getD 0 = u[4 + 3 * (1 - D)]?.getD 0 ∧ (finV u D v n c)[5 + 3 * (1 - D)]?.getD 0 = u[5 + 3 * (1 - D)]?.getD 0 := by
  match u, hl with
  | [a, t, k, v0, l0, c0, v1, l1, c1], _ =>
    match D, hD with
    | 0, _ => exact ⟨rfl, rfl, rfl, rfl, rfl, rfl, rfl⟩
    | 1, _ => exact ⟨rfl, rfl, rfl, rfl, rfl, rfl, rfl⟩

/-- What a confirmation makes of a round. -/
structure ConR (f : Fl) (k P : Nat) (n : Int) (C X u' : List Int) (q : Bk × Fl × Bool) : Prop where
  J : BkJ q.2.1 q.1 (n + 40)
  yes : q.2.2 = true → Rnd q.2.1 k P (Gd q.2.1 k X none) (n + 40)
  no : q.2.2 = false → Rnd q.2.1 k P (Gd q.2.1 k C (some X)) (n + 40)
  up : f.up → q.2.2 = true ∧ q.2.1.up ∧ Rnd q.2.1 k P (fun u => u = u') (n + 40)
  pg : q.2.1.pg = f.pg
  far : ∀ x, 2 * f.pg ≤ x → pageF q.2.1 x = pageF f x
theorem Opn.confirm {f : Fl} {k P : Nat} {n : Int} {b : Bk} (h : Opn f k P n b) (hn : n ≤ 1000000) {run a : Nat} (hs : b.slot = run) {C X : List Int} (h1 : a ≤ 1) (h2 : run = 1 - a) (h3 : b.st.saved[0]?.getD 0 = (a : Int)) (h4 : b.st.saved[1]?.getD 0 = (run : Int)) (h5 : Hd f k b.st.saved a C) (h7 : Hd f k b.st.saved run X) :
    (confirmB b f).2 = 0 ∧ ConR f k P n C X (conV b.st.saved run) (stepsB 40 (confirmB b f).1 f) := by
  obtain ⟨c1, c2⟩ := confirm_end h.J h.rs (by rw [hs]; omega) (by rw [hs]; exact h4) h.bu h.sg hn
  obtain ⟨g1, g2, g3⟩ := con_get h.len run
  rw [hs] at c2
  refine ⟨c1, c2.J, fun hq => ?_, fun hq => ?_, fun hu => ⟨?_, c2.up hu, ?_⟩, c2.sh.p, fun x hx => c2.far x (far0 hx h.first)⟩
  · rcases c2.out with ⟨o1, o2, o3⟩ | ⟨o1, o2, o3⟩
    · refine h.rnd c2.J c2.sh c2.first c2.blocks o3 (.quiet run X (by omega) g1 g2 ?_ (.inl rfl)) (fun u hu => by cases hu)
      exact h7.turn c2.sh.p (g3 _ (by omega)) (g3 _ (by omega)) (fun x hx _ => c2.far x (far0 (Nat.le_trans (Nat.mul_le_mul_right _ (by omega)) hx) h.first))
    · rw [hq] at o1; cases o1
  · rcases c2.out with ⟨o1, o2, o3⟩ | ⟨o1, o2, o3⟩
    · rw [hq] at o1; cases o1
    · have hfar : ∀ x, 2 * f.pg ≤ x → pageF (stepsB 40 (confirmB b f).1 f).2.1 x = pageF f x := fun x hx => c2.far x (far0 hx h.first)
      refine h.rnd c2.J c2.sh c2.first c2.blocks o3 (.trial a run X h1 h2 h3 h4 (h5.far c2.sh.p hfar) rfl (h7.far c2.sh.p hfar)) (fun u hu => ?_)
      injection hu with hu
      subst hu
      exact .quiet run X (by omega) g1 g2 (h7.turn c2.sh.p (g3 _ (by omega)) (g3 _ (by omega)) (fun x hx _ => hfar x (Nat.le_trans (Nat.mul_le_mul_right _ (by omega)) hx))) (.inr rfl)
  · rcases c2.out with ⟨o1, o2, o3⟩ | ⟨o1, o2, o3⟩
    · exact o1
    · exact absurd hu o2
  · rcases c2.out with ⟨o1, o2, o3⟩ | ⟨o1, o2, o3⟩
    · exact h.rnd c2.J c2.sh c2.first c2.blocks o3 rfl (fun u hu => by cases hu)
    · exact absurd hu o2

/-- What an installation makes of a round. -/
structure InsR (f : Fl) (k P : Nat) (n : Int) (C X : List Int) (run : Nat) (u' : List Int) (q : Bk × Fl × Bool) : Prop where
  J : BkJ q.2.1 q.1 (n + 40)
  rnd : Rnd q.2.1 k P (Gd q.2.1 k C (some X)) (n + 40)
  yes : q.2.2 = true → Rnd q.2.1 k P (fun u => u = u') (n + 40) ∧ Hd q.2.1 k u' run C ∧ Hd q.2.1 k u' (1 - run) X ∧ q.1.st.saved = u'
  up : f.up → q.2.2 = true ∧ q.2.1.up
theorem Opn.install {f : Fl} {k P : Nat} {n : Int} {b : Bk} (h : Opn f k P n b) (hn : n ≤ 1000000) {run : Nat} (hs : b.slot = run) (hr1 : run ≤ 1) {C : List Int} (h3 : b.st.saved[0]?.getD 0 = (run : Int)) (h4 : b.st.saved[1]?.getD 0 = 2) (h5 : Hd f k b.st.saved run C) {v : Int} (hv : 1 ≤ v ∧ v ≤ 1073741824) {X : List Int} (hby : Bytes X) (hx1 : 1 ≤ X.length) (hx2 : X.length ≤ k * P * 64) :
    InsR f k P n C X run (finV b.st.saved (1 - run) v X.length (sumZ X)) (installB v X b f) := by
  have h30 : savB b 0 = (run : Int) := h3
  have hx3 : X.length ≤ sizeF f b.blocks := by
    rw [h.blocks]
    unfold sizeF
    rw [h.pg, show (2 * k + 2 - 2) / 2 = k by omega]
    exact hx2
  have hR := install_r h.J h.rs (by rw [hs]; omega) h4 h.upl h.bu h.sg hn hv hby hx1 hx3
  rw [h30, Int.toNat_natCast] at hR
  obtain ⟨D, hD⟩ : ∃ D, 1 - run = D := ⟨_, rfl⟩
  have hD1 : D ≤ 1 := by omega
  have hrD : 1 - D = run := by omega
  rw [hD] at hR ⊢
  obtain ⟨q, hq⟩ : ∃ q, installB v X b f = q := ⟨_, rfl⟩
  rw [hq] at hR ⊢
  obtain ⟨g0, g1, g2, g3, g4, g5, g6⟩ := fin_get h.len hD1 v X.length (sumZ X)
  obtain ⟨u', hu'⟩ : ∃ u', finV b.st.saved D v X.length (sumZ X) = u' := ⟨_, rfl⟩
  rw [hu'] at hR g0 g1 g2 g3 g4 g5 g6 ⊢
  rw [hrD] at g5 g6
  have hfar : ∀ x, (2 + run * k) * f.pg ≤ x → x < (2 + run * k) * f.pg + k * f.pg → pageF q.2.1 x = pageF f x := fun x hx1 hx2 => by
    refine hR.far x (far0 (Nat.le_trans (Nat.mul_le_mul_right _ (by omega)) hx1) h.first) ?_
    unfold InSl blkB
    rw [h.first, h.k, Nat.zero_add]
    rw [← Nat.add_mul] at hx2
    rintro ⟨i1, i2⟩
    have j1 := Nat.lt_of_mul_lt_mul_right (Nat.lt_of_le_of_lt hx1 i2)
    have j2 := Nat.lt_of_mul_lt_mul_right (Nat.lt_of_le_of_lt i1 hx2)
    have hcs : (run = 0 ∧ D = 1) ∨ (run = 1 ∧ D = 0) := by omega
    rcases hcs with ⟨e1, e2⟩ | ⟨e1, e2⟩ <;> (rw [e1, e2] at j1 j2; omega)
  have hA : Hd q.2.1 k b.st.saved run C := h5.turn hR.sh.p rfl rfl hfar
  have hA' : Hd q.2.1 k u' run C := h5.turn hR.sh.p g5 g6 hfar
  have hX : imgB q.2.1 b D X.length = X → Hd q.2.1 k u' D X := fun hi =>
    ⟨hx1, by rw [hR.sh.p, h.pg]; exact hx2, g3, g4, by rw [← imgB_slot h.first h.k]; exact hi⟩
  refine ⟨hR.J, ?_, fun hq2 => ?_, fun hu => ⟨?_, hR.up hu⟩⟩
  · rcases hR.out with ⟨o1, o2, o3⟩ | ⟨o1, ⟨o2, o3, o4⟩ | ⟨o2, o3, o4⟩⟩
    · refine ⟨hR.J.fo, hR.sh.p.trans h.pg, hR.sh.w.trans h.wl, h.k1, h.k8, h.p2, q.1.st, none, ?_, by rw [o3]; exact h.sp, hR.J.ok.fi.trans (hR.first.trans h.first), hR.J.ok.bl, hR.J.sq, by rw [o3]; exact .quiet run C hr1 h3 h4 hA (.inl rfl), fun u hu => by cases hu⟩
      have := sto_of (g := f) hR.J o3 h.bu
      rw [o3]
      exact this
    · exact h.rnd hR.J hR.sh hR.first hR.blocks o4 (.trial run D X hr1 hD.symm (g0.trans h3) g1 hA' rfl (hX o1)) (fun u hu => by cases hu)
    · refine h.rnd hR.J hR.sh hR.first hR.blocks o4 (.quiet run C hr1 h3 h4 hA (.inl rfl)) (fun u hu => ?_)
      injection hu with hu
      subst hu
      exact .trial run D X hr1 hD.symm (g0.trans h3) g1 hA' rfl (hX o1)
  · rcases hR.out with ⟨o1, o2, o3⟩ | ⟨o1, ⟨o2, o3, o4⟩ | ⟨o2, o3, o4⟩⟩
    · rw [hq2] at o1; cases o1
    · exact ⟨h.rnd hR.J hR.sh hR.first hR.blocks o4 rfl (fun u hu => by cases hu), hA', by rw [hD]; exact hX o1, o4.1⟩
    · rw [hq2] at o2; cases o2
  · rcases hR.out with ⟨o1, o2, o3⟩ | ⟨o1, ⟨o2, o3, o4⟩ | ⟨o2, o3, o4⟩⟩
    · exact absurd hu o2
    · exact o2
    · exact absurd hu o3
theorem fin_tries {u : List Int} (hl : u.length = 9) {D : Nat} (hD : D ≤ 1) (v : Int) (n : Nat) (c : Int) {b : Bk} (h : b.st.saved = finV u D v n c) : savB b 1 = (D : Int) ∧ savB b 2 = 3 := by
  obtain ⟨g0, g1, g2, -⟩ := fin_get hl hD v n c
  unfold savB
  rw [h]
  exact ⟨g1, g2⟩
end Go.Proofs.Ytjdknddnanopaaa
