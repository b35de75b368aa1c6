/-
  Part 9 of the proof.
-/
import Derived.Test.YtjdknddnanopaaaGreatR8
namespace Go.Proofs.YtjdknddnanopaaaGreat
open Go.RowKit Tryz
set_option maxRecDepth 100000
set_option maxHeartbeats 16000000
set_option linter.all false
variable {w w' : World} {g : Fl} {X : Nat → Prop} {B C N bl fi k t : Nat} {a b c d e f : Value} {s s' : St} {sp : List eB} {x : Rc} {xs : List Value}
theorem dW.UQ {f : Fl} (h : dW f s) : fX s f = s := by
 unfold fX
 rw [h.br, h.up]
 have := h.br
 cases s
 simp_all
theorem iq (s : St) (f : Fl) : (bj s f).first = s.first ∧ (bj s f).aa = s.aa ∧ (bj s f).aw = s.aw ∧ (bj s f).saved = s.saved ∧ (bj s f).aj = s.aj ∧ (bj s f).seq = s.seq ∧ (bj s f).block = s.block ∧ (bj s f).slot = s.slot ∧ (bj s f).af = s.af := by
 unfold bj
 split <;> exact ⟨rfl, rfl, rfl, rfl, rfl, rfl, rfl, rfl, rfl⟩
theorem B2 {f : Fl} (h1 : s'.first = s.first) (h2 : s'.aw = s.aw) (b j : Nat) : aG s' f b j = aG s f b j := by
 unfold aG St.k
 rw [h1, h2]
theorem dW.set {f : Fl} (h : dW f s) {i v : Int} (hv : dI v) : dW f (aU s i v) := by
 have dc := eH (f := f) h.ok (i := i) hv
 unfold aU at dc ⊢
 split at dc
 ·rename_i he
  rw [iP he]
  have nC : ∃ p, s.aw[i.toNat]? = some p ∧ iz p v = true := by
   unfold ga at he
   split at he
   ·cases he
   split at he
   ·cases he
   split at he
   ·cases he
   rename_i a b c
   obtain ⟨p, hp⟩ := getElem?_of_lt (l := s.aw) (k := i.toNat) oM
   rw [hp] at c
   exact ⟨p, hp, by simpa using c⟩
  obtain ⟨p, hp, hx⟩ := nC
  exact ⟨h.wu, dc, h.up, h.br, h.By, h.new.congr rfl rfl rfl (fun b j _ _ => dF rfl rfl rfl (fun _ _ => rfl)), h.q0, h.xr, h.uR.set hp hx, fun hb => ⟨(h.Bz hb).cN, (h.Bz hb).vl, (h.Bz hb).lg, (h.Bz hb).ne, (h.Bz hb).nx, (h.Bz hb).er, (h.Bz hb).pre⟩⟩
 rename_i he
 rw [iN he]
 exact h
theorem dW.begin {f : Fl} (h : dW f s) : dW f (aZ s f) := by
 have dc := my (f := f) h.ok
 unfold aZ at dc ⊢
 rw [h.UQ] at dc ⊢
 split at dc
 ·rename_i he
  rw [iP he]
  obtain ⟨_, _, abJ, gB, mZ⟩ := jD he
  obtain ⟨p1, p2, p3, p4, p5, p6, p7, p8, p9⟩ := iq s f
  have Ls : eZ f { bj s f with cf := dV (s.seq + 1) s.aj, values := s.aj, done := 0, bt := true } (fW s) :=
   h.new.congr p2 p3 rfl (fun b j _ _ => dF p1 p3 rfl (fun _ _ => rfl))
  have qq : fW { bj s f with cf := dV (s.seq + 1) s.aj, values := s.aj, done := 0, bt := true } = fW s := by
   unfold fW
   simp only [p8, p6, p7, p4]
  refine ⟨h.wu, dc, h.up, by simp only [p9]; exact h.br, by simp only [p1, p2]; exact h.By, by rw [qq]; exact Ls, by simp only [p8, p6, p7, p3, p4]; exact h.q0, by simp only [p3, p4]; exact h.xr, by simp only [p3, p5]; exact h.uR, fun _ => ?_⟩
  have hk : ∀ x : St, x.aw = s.aw → x.k = s.k := fun x e => by unfold St.k; rw [e]
  refine ⟨by simp only [p6], by simp only [p3]; exact h.ok.tl, by simp only [p3]; exact h.uR, ?_, ?_, ?_, ?_⟩
  ·show (bj s f).bH = (bj s f).block → (bj s f).slot < ((bj s f).bg : Int)
   rw [p7, p8]
   unfold bj
   split
   ·rename_i j hj
    exact fun _ => (wo hj).2.1
   intro e
   simp only at e
   have := h.ok.bl
   have := h.ok.b1
   exfalso
   by_cases hl : s.block + 1 < s.aa
   ·rw [Nat.mod_eq_of_lt hl] at e; omega
   rw [show s.block + 1 = s.aa by omega, Nat.mod_self] at e; omega
  ·show (bj s f).bH = (bj s f).block ∨ (bj s f).bH = ((bj s f).block + 1) % (bj s f).aa
   rw [p7, p2]
   unfold bj
   split
   ·exact .inl rfl
   exact .inr rfl
  ·show (bj s f).erase = true → (bj s f).bH ≠ (bj s f).block ∧ (bj s f).bg = 0 ∧ (0 : Nat) = 0
   rw [p7]
   unfold bj
   split
   ·intro e; cases e
   intro _
   refine ⟨fun e => ?_, rfl, rfl⟩
   simp only at e
   have := h.ok.bl
   have := h.ok.b1
   by_cases hl : s.block + 1 < s.aa
   ·rw [Nat.mod_eq_of_lt hl] at e; omega
   rw [show s.block + 1 = s.aa by omega, Nat.mod_self] at e; omega
  intro he i hi
  rw [iN (by simp)]
  have Cu : i < s.k := Nat.lt_of_lt_of_eq hi (hk { bj s f with cf := dV (s.seq + 1) s.aj, values := s.aj, done := 0, bt := true } p3)
  have iA : aG { bj s f with cf := dV (s.seq + 1) s.aj, values := s.aj, done := 0, bt := true } f (bj s f).bH (bj s f).bg = aG s f (bj s f).bH (bj s f).bg := B2 p1 p3 _ _
  show aB f (aG { bj s f with cf := dV (s.seq + 1) s.aj, values := s.aj, done := 0, bt := true } f (bj s f).bH (bj s f).bg + i) = cL
  rw [iA]
  have he' : (bj s f).erase = false := he
  unfold bj at he' ⊢
  split
  ·rename_i j hj
   obtain ⟨a1, a2, a3⟩ := wo hj
   exact (wT h.wu (h.ok.oG h.ok.bl a1)).1 a3 i Cu
  rename_i hn
  rw [hn] at he'
  simp only [Bool.not_eq_false'] at he'
  have hb : (s.block + 1) % s.aa < s.aa := Nat.mod_lt _ (by have := h.ok.b1; omega)
  have := h.ok.kp
  exact (wT h.wu (h.ok.wS hb)).1 he' i oM
 rename_i he
 rw [iN he]
 exact h
theorem OT {f : Fl} {b j : Nat} (hf : s'.first = s.first) (hs : s'.aw = s.aw) (hp : g.pg = f.pg) 
 (h : ∀ i, i < s.k → dw (aB g (aG s f b j + i)) = true → aB g (aG s f b j + i) = aB f (aG s f b j + i)) : eV g s' b j = eV f s b j ∨ eV g s' b j = none := by
 by_cases gH : ∀ i, i < s.k → dw (aB g (aG s f b j + i)) = true
 ·exact .inl (dF hf hs hp (fun i hi => h i hi (gH i hi)))
 right
 simp only [Classical.not_forall] at gH
 obtain ⟨i, hi, hb⟩ := gH
 have hk : s'.k = s.k := by unfold St.k; rw [hs]
 have ha : aG s' g b j = aG s f b j := by unfold aG; rw [hk, hf, hp]
 exact ks (i := i) (by rw [hk]; exact hi) (by rw [ha]; simpa using hb)
inductive zg (f : Fl) (s : St) (q : St × Fl × Bool × Int) : Prop
 | more : q.2.2.1 = false → q.2.2.2 = 0 → dW q.2.1 q.1 → q.1.bt = true → q.1.saved = s.saved → q.1.values = s.values → q.1.aj = s.aj → q.1.aw = s.aw → q.1.first = s.first → q.1.aa = s.aa → q.1.block = s.block → q.1.slot = s.slot → q.1.bH = s.bH → zg f s q
 | last : q.2.2.1 = true → q.2.2.2 = 0 → dW q.2.1 q.1 → q.1.bt = false → q.1.saved = s.values → q.1.aj = s.aj → q.1.aw = s.aw → q.1.first = s.first → q.1.aa = s.aa → q.1.block = s.bH → 0 ≤ q.1.slot → zg f s q
 | dead : q.2.2.1 = false → q.2.2.2 = 20 → xp q.2.1 q.1 → q.1.saved = s.saved → q.1.values = s.values → q.1.aw = s.aw → q.1.first = s.first → q.1.aa = s.aa → q.1.block = s.block → q.1.slot = s.slot → q.1.bH = s.bH → zg f s q
theorem dW.pU {f : Fl} (h : dW f s) (hb : s.bt = true) (he : s.erase = true) : zg f s (aI s f) := by
 have t := h.Bz hb
 obtain ⟨er1, Ag, er3⟩ := t.er he
 have dc := mc (f := f) h.ok
 have hB : s.first + s.bH < f.ar.length := by have := h.ok.fb; have := h.ok.tb; omega
 have oI : eW s f = aR f ((s.first + s.bH : Nat) : Int) := by
  unfold eW
  rw [iP he]
  congr 1
 obtain ⟨e1, e2, e3⟩ := n7 h.wu h.up hB
 have Cv := kn (f := f) (block := ((s.first + s.bH : Nat) : Int)) h.wu
 rw [← oI] at e1 e2 e3 Cv
 have Gt : ct s = { s with erase := false } := by unfold ct; rw [iP he]
 have ux := h.ok.k1
 have hcd : fW { s with erase := false } = fW s := rfl
 rcases e3 with ⟨c1, c2, c3⟩ | ⟨c1, c2, c3⟩
 ·have hq := mL (f := f) h.br hb c1 (by rw [Gt]; simp only; rw [er3, h.ok.pl hb]; exact ux)
  rw [hq] at dc ⊢
  rw [Gt] at dc ⊢
  have zT : ∀ x, s.first * (eW s f).1.pg ≤ x → x < (s.first + s.aa) * (eW s f).1.pg → rH (aB (eW s f).1 x) := by
   intro x h1 h2
   rw [e1] at h1 h2
   rw [c3]
   split
   ·exact rH.blank
   exact h.By x h1 h2
  have lh : ∀ b j, b < s.aa → j < bm s f → eV (eW s f).1 { s with erase := false } b j = eV f s b j ∨ (eV (eW s f).1 { s with erase := false } b j = none ∧ ∀ q v, fW s ≠ some (q, b, j, v)) := by
   intro b j h1 h2
   by_cases nt : b = s.bH
   ·subst nt
    right
    refine ⟨?_, h.E7 (.inl (fun e => er1 e.symm))⟩
    have ha : aG { s with erase := false } (eW s f).1 s.bH j = aG s f s.bH j := by unfold aG St.k; rw [e1]
    refine ks (i := 0) ux ?_
    rw [ha, c3, iP ((h.ok.mO (B := s.first + s.bH) h2 ux).2 rfl)]
    exact kT
   left
   refine dF rfl rfl e1 (fun i hi => ?_)
   rw [c3, iN (fun hx => nt (by
    have := (h.ok.mO h2 hi).1 hx
    omega))]
  refine .more rfl rfl ⟨Cv, dc, c2, h.br, zT, ?_, h.q0, h.xr, h.uR, fun _ => ?_⟩ hb rfl rfl rfl rfl rfl rfl rfl rfl rfl
  ·rw [hcd]
   exact h.new.less rfl rfl e1 lh
  refine ⟨t.cN, t.vl, t.lg, t.ne, t.nx, (fun e => by cases e), fun _ i hi => ?_⟩
  have ha : aG { s with erase := false } (eW s f).1 s.bH s.bg = aG s f s.bH s.bg := by unfold aG St.k; rw [e1]
  simp only
  rw [ha, iN oM, c3, iP ((h.ok.mO (B := s.first + s.bH) h.ok.ts hi).2 rfl)]
 have hq := mM (f := f) (k := 0) h.br hb (by rw [c1]; decide)
 rw [hq] at dc ⊢
 rw [Gt] at dc ⊢
 have zT : ∀ x, s.first * (eW s f).1.pg ≤ x → x < (s.first + s.aa) * (eW s f).1.pg → rH (aB (eW s f).1 x) := by
  intro x h1 h2
  rw [e1] at h1 h2
  rw [c3]
  split
  ·exact (h.By x h1 h2).eK (ei h.wu.yB _)
  exact h.By x h1 h2
 have lh : ∀ b j, b < s.aa → j < bm s f → eV (eW s f).1 { { s with erase := false } with af := true } b j = eV f s b j ∨ (eV (eW s f).1 { { s with erase := false } with af := true } b j = none ∧ ∀ q v, fW s ≠ some (q, b, j, v)) := by
  intro b j h1 h2
  by_cases nt : b = s.bH
  ·subst nt
   have aax := OT (f := f) (g := (eW s f).1) (s := s) (s' := { { s with erase := false } with af := true }) (b := s.bH) (j := j) rfl rfl e1 (fun i hi hg => by
    rw [c3] at hg ⊢
    split
    ·rename_i nC
     rw [iP nC] at hg
     have hr := h.ok.sJ h.ok.tb h2 hi
     exact (h.By _ hr.1 hr.2).fix (ei h.wu.yB _) hg
    rfl)
   rcases aax with e | e
   ·exact .inl e
   exact .inr ⟨e, h.E7 (.inl (fun e => er1 e.symm))⟩
  left
  refine dF rfl rfl e1 (fun i hi => ?_)
  rw [c3, iN (fun hx => nt (by
   have := (h.ok.mO h2 hi).1 hx
   omega))]
 refine .dead rfl rfl ⟨Cv, dc, c2, rfl, hb, zT, .inl ?_, h.xr, t.lg, fun e => (h.q0 e).2⟩ rfl rfl rfl rfl rfl rfl rfl rfl
 exact h.new.less rfl rfl e1 lh
theorem dW.ss {f : Fl} (h : dW f s) (hb : s.bt = true) (he : s.erase = false) : zg f s (aI s f) := by
 have t := h.Bz hb
 have dc := mc (f := f) h.ok
 have qo := h.ok.dn hb h.br
 have fA := h.ok.pl hb
 have nC := h.ok.oG h.ok.tb h.ok.ts
 have Sf : cN s.values.length = s.k := by unfold St.k; rw [t.vl]
 have YO : s.cf[s.done]?.getD [] = eL (s.seq + 1) s.values s.done := by
  rw [t.cN, Aj oM]
  rfl
 have oI : eW s f = bz f ((aG s f s.bH s.bg + s.done : Nat) : Int) (eL (s.seq + 1) s.values s.done) := by
  unfold eW
  rw [iN (by rw [he]; decide), YO]
 obtain ⟨P, hP⟩ := ex (aG s f s.bH s.bg)
 rw [hP] at oI nC
 have cB : aB f (P + s.done) = cL := by
  have := t.pre he s.done qo
  rw [iN oM, hP] at this
  exact this
 have K0 := h.ok.n2
 have tX : Bytes (eL (s.seq + 1) s.values s.done) := lC _ _ _ (by have := h.ok.k8; omega) (by rw [t.vl]; omega)
 obtain ⟨e1, e2, e3⟩ := pZ h.wu h.up (P := P + s.done) oM (dQ (s.seq + 1) s.values s.done) cB
 have Cv := nL (f := f) (page := ((P + s.done : Nat) : Int)) h.wu tX
 rw [← oI] at e1 e2 e3 Cv
 have Gt : ct s = { s with done := s.done + 1 } := by unfold ct; rw [iN (by rw [he]; decide)]
 have ux := h.ok.k1
 have OB := sR (s.seq + 1) s.values s.done
 have OA := dQ (s.seq + 1) s.values s.done
 have GF : ∀ (s' : St) (b j : Nat), s'.first = s.first → s'.aw = s.aw → b < s.aa → j < bm s f → ¬ (b = s.bH ∧ j = s.bg) → (∀ x, x ≠ P + s.done → aB (eW s f).1 x = aB f x) → eV (eW s f).1 s' b j = eV f s b j := by
  intro s' b j h1 h2 h3 h4 h5 h6
  refine dF h1 h2 e1 (fun i hi => h6 _ (fun e => h5 ?_))
  rw [← hP] at e
  have := h.ok.Ks h4 h.ok.ts hi qo e
  exact ⟨this.1, this.2.1⟩
 have VK : ∀ q v, fW s ≠ some (q, s.bH, s.bg, v) := by
  apply h.E7
  by_cases e : s.block = s.bH
  ·exact .inr (t.ne e.symm)
  exact .inl e
 have Ni : ∀ (s' : St), s'.first = s.first → s'.aw = s.aw → aG s' (eW s f).1 s.bH s.bg = P := by
  intro s' h1 h2
  rw [← hP]
  unfold aG St.k
  rw [h1, h2, e1]
 have zT : ∀ (p : List Int), rH p → (∀ x, aB (eW s f).1 x = if x = P + s.done then p else aB f x) → ∀ x, s.first * (eW s f).1.pg ≤ x → x < (s.first + s.aa) * (eW s f).1.pg → rH (aB (eW s f).1 x) := by
  intro p hp hx x h1 h2
  rw [e1] at h1 h2
  rw [hx]
  split
  ·exact hp
  exact h.By x h1 h2
 have Iu := t.pre he
 rw [hP] at Iu
 rcases e3 with ⟨c1, c2, c3⟩ | ⟨c1, c2, c3⟩
 ·have c3' : ∀ x, x ≠ P + s.done → aB (eW s f).1 x = aB f x := fun x hx => by rw [c3, iN hx]
  by_cases aY : s.done + 1 < s.k
  ·have hq := mL (f := f) h.br hb c1 (by rw [Gt]; simp only; omega)
   rw [hq] at dc ⊢
   rw [Gt] at dc ⊢
   have lh : ∀ b j, b < s.aa → j < bm s f → eV (eW s f).1 { s with done := s.done + 1 } b j = eV f s b j ∨ (eV (eW s f).1 { s with done := s.done + 1 } b j = none ∧ ∀ q v, fW s ≠ some (q, b, j, v)) := by
    intro b j h1 h2
    by_cases nt : b = s.bH ∧ j = s.bg
    ·obtain ⟨rfl, rfl⟩ := nt
     right
     refine ⟨ks (i := s.done + 1) aY ?_, VK⟩
     rw [Ni { s with done := s.done + 1 } rfl rfl, c3' _ oM, Iu _ aY, iN oM]
     exact kT
    exact .inl (GF _ b j rfl rfl h1 h2 nt c3')
   refine .more rfl rfl ⟨Cv, dc, c2, h.br, zT _ (rH.Th OB OA tX) c3, h.new.less rfl rfl e1 lh, h.q0, h.xr, h.uR, fun _ => ?_⟩ hb rfl rfl rfl rfl rfl rfl rfl rfl rfl
   refine ⟨t.cN, t.vl, t.lg, t.ne, t.nx, (fun e => by simp only at e; rw [he] at e; cases e), fun _ i hi => ?_⟩
   simp only
   rw [Ni { s with done := s.done + 1 } rfl rfl, c3]
   by_cases hid : i = s.done
   ·subst hid
    rw [iP rfl, iP oM]
   rw [iN oM, Iu i hi]
   by_cases sN : i < s.done
   ·rw [iP sN, iP oM]
   rw [iN sN, iN oM]
  have hdk : s.done + 1 = s.k := oM
  have hq := vj (f := f) h.br hb c1 (by rw [Gt]; simp only; omega)
  rw [hq] at dc ⊢
  rw [Gt] at dc ⊢
  obtain ⟨s', jU⟩ := ex (kM { s with done := s.done + 1 })
  have hrt : eV (eW s f).1 s' s.bH s.bg = some (s.seq + 1, s.values) := by
   have hqb := h.ok.qb hb h.br
   have Dv := h.ok.q1
   refine BN (f := (eW s f).1) ?_ (by unfold fU; rw [iN]; rw [t.vl]; have := h.ok.n1; omega) (by rw [← jU]; exact t.vl) h.ok.vi
   have hk' : s'.k = s.k := by rw [← jU]; rfl
   rw [Ni s' (by rw [← jU]; rfl) (by rw [← jU]; rfl), hk']
   unfold bT dV
   rw [Sf]
   apply List.map_congr_left
   intro i hi
   rw [List.mem_range] at hi
   rw [c3]
   by_cases hid : i = s.done
   ·subst hid
    rw [iP rfl]
   rw [iN oM, Iu i hi, iP oM]
  have Ls : eZ (eW s f).1 s' (some (s.seq + 1, s.bH, s.bg, s.values)) := by
   refine ⟨by rw [← jU]; exact h.ok.tb, ?_, hrt, fun b j q v h1 h2 h3 => ?_⟩
   ·have : bm s' (eW s f).1 = bm s f := by rw [← jU]; unfold bm St.k kM; rw [e1]
    rw [this]
    exact h.ok.ts
   by_cases nt : b = s.bH ∧ j = s.bg
   ·exact .inl nt
   right
   have JY : b < s.aa := by rw [← jU] at h1; exact h1
   have LH : j < bm s f := by
    have : bm s' (eW s f).1 = bm s f := by rw [← jU]; unfold bm St.k kM; rw [e1]
    rw [this] at h2
    exact h2
   rw [GF s' b j (by rw [← jU]; rfl) (by rw [← jU]; rfl) JY LH nt c3'] at h3
   exact h.Qo JY LH h3
  rw [jU] at dc ⊢
  have qq : fW s' = some (s.seq + 1, s.bH, s.bg, s.values) := by
   rw [← jU]
   unfold fW kM
   simp only
   rw [iN oM, Int.toNat_natCast]
  refine .last rfl rfl ⟨Cv, dc, c2, by rw [← jU]; exact h.br, ?_, by rw [qq]; exact Ls, ?_, by rw [← jU]; exact t.lg, by rw [← jU]; exact h.uR, ?_⟩ ?_ ?_ ?_ ?_ ?_ ?_ ?_ ?_
  ·have := zT _ (rH.Th OB OA tX) c3
   rw [← jU]
   exact this
  ·intro e
   rw [← jU] at e
   unfold kM at e
   simp only at e
   omega
  ·intro e
   rw [← jU] at e
   cases e
  ·rw [← jU]; rfl
  ·rw [← jU]; rfl
  ·rw [← jU]; rfl
  ·rw [← jU]; rfl
  ·rw [← jU]; rfl
  ·rw [← jU]; rfl
  ·rw [← jU]; rfl
  rw [← jU]; unfold kM; simp only; omega
 have c3' : ∀ x, x ≠ P + s.done → aB (eW s f).1 x = aB f x := fun x hx => by rw [c3, iN hx]
 have hq := mM (f := f) (k := 0) h.br hb (by rw [c1]; decide)
 rw [hq] at dc ⊢
 rw [Gt] at dc ⊢
 have htr := zT _ ((rH.Th OB OA tX).eK h.wu.yB) c3
 obtain ⟨s', jU⟩ : ∃ s' : St, { { s with done := s.done + 1 } with af := true } = s' := ⟨_, rfl⟩
 have f1 : s'.first = s.first := by rw [← jU]
 have f2 : s'.aw = s.aw := by rw [← jU]
 have f3 : s'.aa = s.aa := by rw [← jU]
 have dX : bm s' (eW s f).1 = bm s f := by unfold bm St.k; rw [f2, e1]
 have hk' : s'.k = s.k := by unfold St.k; rw [f2]
 have Ls : eZ (eW s f).1 s' (fW s) ∨ eZ (eW s f).1 s' (some (s.seq + 1, s.bH, s.bg, s.values)) := by
  by_cases hfull : eK (eL (s.seq + 1) s.values s.done) f.az = eL (s.seq + 1) s.values s.done ∧ s.done + 1 = s.k
  ·right
   obtain ⟨Cx, Nr⟩ := hfull
   refine ⟨by rw [f3]; exact h.ok.tb, by rw [dX]; exact h.ok.ts, ?_, fun b j q v h1 h2 h3 => ?_⟩
   ·have hqb := h.ok.qb hb h.br
    have Dv := h.ok.q1
    refine BN (f := (eW s f).1) ?_ (by unfold fU; rw [iN]; rw [t.vl]; have := h.ok.n1; omega) (by rw [f2]; exact t.vl) h.ok.vi
    rw [Ni s' f1 f2, hk']
    unfold bT dV
    rw [Sf]
    apply List.map_congr_left
    intro i hi
    rw [List.mem_range] at hi
    rw [c3]
    by_cases hid : i = s.done
    ·subst hid
     rw [iP rfl, Cx]
    rw [iN oM, Iu i hi, iP oM]
   by_cases nt : b = s.bH ∧ j = s.bg
   ·exact .inl nt
   right
   rw [f3] at h1
   rw [dX] at h2
   rw [GF s' b j f1 f2 h1 h2 nt c3'] at h3
   exact h.Qo h1 h2 h3
  left
  refine h.new.less f3 f2 e1 (fun b j h1 h2 => ?_)
  by_cases nt : b = s.bH ∧ j = s.bg
  ·obtain ⟨rfl, rfl⟩ := nt
   right
   refine ⟨?_, VK⟩
   by_cases aY : s.done + 1 < s.k
   ·refine ks (i := s.done + 1) (by rw [hk']; exact aY) ?_
    rw [Ni s' f1 f2, c3' _ oM, Iu _ aY, iN oM]
    exact kT
   refine ks (i := s.done) (by rw [hk']; exact qo) ?_
   rw [Ni s' f1 f2, c3, iP rfl, ym tX h.wu.yB OA OB]
   rw [decide_eq_false_iff_not]
   exact fun e => hfull ⟨e, oM⟩
  exact .inl (GF s' b j f1 f2 h1 h2 nt c3')
 rw [jU] at dc ⊢
 have qq : fW s' = fW s := by rw [← jU]; rfl
 have QG : some (s'.seq + 1, s'.bH, s'.bg, s'.values) = some (s.seq + 1, s.bH, s.bg, s.values) := by rw [← jU]
 refine .dead rfl rfl ⟨Cv, dc, c2, by rw [← jU], by rw [← jU]; exact hb, by rw [f1, f3]; exact htr, by rw [qq, QG]; exact Ls.elim .inl (fun e => .inr ⟨e, by rw [← jU]; simp⟩), by rw [← jU]; exact h.xr, by rw [← jU]; exact t.lg, by rw [← jU]; exact fun e => (h.q0 e).2⟩ (by rw [← jU]) (by rw [← jU]) f2 f1 f3 (by rw [← jU]) (by rw [← jU]) (by rw [← jU])
theorem dW.step {f : Fl} (h : dW f s) (hb : s.bt = true) : zg f s (aI s f) := by
 by_cases he : s.erase = true
 ·exact h.pU hb he
 exact h.ss hb (by simpa using he)
theorem tR (h : sp.any fy = false) : Lg sp (sp.map eB.df) := by
 unfold Lg
 induction sp with
 | nil => rfl
 | cons p sp ih =>
  rw [List.any_cons, Bool.or_eq_false_iff] at h
  rw [List.map_cons]
  show ey p p.df :: ez sp (sp.map eB.df) = _
  rw [ih h.2]
  congr 1
  have h1 := h.1
  unfold fy at h1
  rw [decide_eq_false_iff_not] at h1
  unfold ey
  rw [iP (by unfold iz; rw [decide_eq_true_eq]; omega)]
structure ME (g : Fl) (s t : St) (cur : Option (Int × Nat × Nat × List Int)) : Prop where
 live : dW g t
 bt : t.bt = false
 aw : t.aw = s.aw
 first : t.first = s.first
 aa : t.aa = s.aa
 aj : t.aj = t.saved
 rc : fW t = cur
 no : cur = none → t.saved = s.aw.map eB.df ∧ t.block = 0
theorem yH {f : Fl} {cur : Option (Int × Nat × Nat × List Int)} (hn : eZ f s cur) (hs : bC f s) (hi : g.img = f.img) (hp : g.pg = f.pg) (hw : g.ar.length = f.ar.length) (dc : g.ok) (gE : g.aF = false) 
 (zT : ∀ x, s.first * f.pg ≤ x → x < (s.first + s.aa) * f.pg → rH (aB f x)) (fh : s.aw.any fy = false) (hl : ∀ q b j v, cur = some (q, b, j, v) → Lg s.aw v) :
 cI g s.first s.aa s.aw = 0 ∧ ME g s (aJ g s.first s.aa s.aw) cur := by
 have he : cI g s.first s.aa s.aw = 0 := by
  have h1 := hs.b1
  have h2 := hs.b2
  have h3 := hs.fb
  have h4 := hs.n1
  have h5 := hs.n2
  have h6 := hs.kp
  unfold cI
  rw [gE, iN (by decide), iN oM, iN oM, iN oM, iN (by
   have : s.aw.any (fun p => decide (p.df < p.lo ∨ p.hi < p.df)) = false := fh
   rw [this]; decide), iN (by unfold St.k at h6; omega)]
 refine ⟨he, ?_⟩
 have nn : ∀ x, aB g x = aB f x := fun x => by unfold aB; rw [hi]
 obtain ⟨s0, fp⟩ := ex (dM s.first s.aa s.aw)
 have xw : eZ g s0 cur := by
  rw [← fp]
  exact hn.congr rfl rfl hp (fun b j _ _ => dF rfl rfl hp (fun i _ => nn _))
 have h0 : s0.seq = 0 := by rw [← fp]; rfl
 have gH := kx h0 xw
 have hT : bm s0 g = g.pg / cN s.aw.length := by rw [← fp]; rfl
 have hB : s0.aa = s.aa := by rw [← fp]; rfl
 have hS : s0.aw = s.aw := by rw [← fp]; rfl
 rw [hT, hB] at gH
 have Ix := kv (f := g) hs.sp he
 have htrn' : ∀ x, s.first * g.pg ≤ x → x < (s.first + s.aa) * g.pg → rH (aB g x) := fun x h1 h2 => by
  rw [nn]
  rw [hp] at h1 h2
  exact zT x h1 h2
 unfold aJ at Ix ⊢
 rw [fp, gH] at Ix ⊢
 cases cur with
 | none =>
  simp only at Ix ⊢
  have e1 : s0.slot = -1 := by rw [← fp]; rfl
  have e2 : s0.saved = s.aw.map eB.df := by rw [← fp]; rfl
  have e3 : s0.block = 0 := by rw [← fp]; rfl
  have e4 : s0.bt = false := by rw [← fp]; rfl
  have e5 : s0.af = false := by rw [← fp]; rfl
  have e6 : s0.first = s.first := by rw [← fp]; rfl
  have qq : fW { s0 with aj := s0.saved } = none := by unfold fW; rw [iP e1]
  refine ⟨⟨dc, Ix, gE, e5, by simp only [e6, hB]; exact htrn', ?_, ?_, ?_, ?_, ?_⟩, e4, hS, e6, hB, rfl, qq, fun _ => ⟨e2, e3⟩⟩
  ·rw [qq]
   exact xw.congr rfl rfl rfl (fun b j _ _ => dF rfl rfl rfl (fun _ _ => rfl))
  ·intro _
   exact ⟨h0, e3, by simp only [hS]; exact e2⟩
  ·simp only [hS, e2]; exact tR fh
  ·simp only [hS, e2]; exact tR fh
  intro e
  simp only [e4] at e
  cases e
 | some c =>
  obtain ⟨q, b, j, v⟩ := c
  have GA := hl q b j v rfl
  unfold Lg at GA
  simp only [hS, GA] at Ix ⊢
  have e4 : s0.bt = false := by rw [← fp]; rfl
  have e5 : s0.af = false := by rw [← fp]; rfl
  have e6 : s0.first = s.first := by rw [← fp]; rfl
  obtain ⟨t, ht⟩ : ∃ t : St, ({ first := s0.first, aa := s0.aa, aw := s0.aw, saved := v, aj := v, seq := q, block := b, slot := (j : Int), af := s0.af, cf := s0.cf, values := s0.values, bH := s0.bH, bg := s0.bg, done := s0.done, erase := s0.erase, bt := s0.bt } : St) = t := ⟨_, rfl⟩
  have qq : fW t = some (q, b, j, v) := by
   rw [← ht]
   unfold fW
   simp only
   rw [iN oM, Int.toNat_natCast]
  have JN : t.aa = s0.aa := by rw [← ht]
  have Ng : t.aw = s0.aw := by rw [← ht]
  have ht3 : t.first = s0.first := by rw [← ht]
  have aaj : bC g t := by rw [← ht, hS, hB]; exact Ix
  have res : ME g s t (some (q, b, j, v)) := by
   refine ⟨⟨dc, aaj, gE, by rw [← ht]; exact e5, by rw [ht3, JN, e6, hB]; exact htrn', ?_, ?_, ?_, ?_, ?_⟩, by rw [← ht]; exact e4, Ng.trans hS, ht3.trans e6, JN.trans hB, by rw [← ht], qq, fun e => by cases e⟩
   ·rw [qq]
    exact xw.congr JN Ng rfl (fun b j _ _ => dF ht3 Ng rfl (fun _ _ => rfl))
   ·intro e
    rw [← ht] at e
    simp only at e
    omega
   ·rw [Ng, hS, ← ht]; exact GA
   ·rw [Ng, hS, ← ht]; exact GA
   intro e
   rw [← ht] at e
   simp only [e4] at e
   cases e
  rw [← ht, hS, hB] at res
  exact res
def uR (sp : List eB) (raw : List Int) (t : Nat) : List Int := (ez sp raw).take t ++ raw.drop t
theorem ky {raw : List Int} (h : raw.length = sp.length) : (ez sp raw).length = sp.length := by unfold ez; rw [List.length_zipWith]; omega
theorem Gq {raw : List Int} (h : raw.length = sp.length) (ht : t ≤ sp.length) : (uR sp raw t).length = sp.length := by
 unfold uR
 rw [List.length_append, List.length_take, ky h, List.length_drop]
 omega
theorem K3 (sp : List eB) (raw : List Int) : uR sp raw 0 = raw := by unfold uR; simp
theorem Oh {raw : List Int} (h : raw.length = sp.length) : uR sp raw sp.length = ez sp raw := by
 unfold uR
 rw [List.take_of_length_le (by rw [ky h]; exact Nat.le_refl _), List.drop_of_length_le oM, List.append_nil]
theorem R8 {raw : List Int} (h : raw.length = sp.length) {x : Int} (hx : raw[t]? = some x) : (uR sp raw t)[t]? = some x := by
 have ht := (List.getElem?_eq_some_iff.1 hx).1
 unfold uR
 rw [List.getElem?_append_right (by rw [List.length_take, ky h]; omega), List.length_take, ky h, List.getElem?_drop]
 rw [show t + (t - min t sp.length) = t by omega]
 exact hx
theorem K8 {raw : List Int} (h : raw.length = sp.length) {x : Int} {p : eB} (hx : raw[t]? = some x) (hp : sp[t]? = some p) : uR sp raw (t + 1) = (uR sp raw t).set t (ey p x) := by
 have ht := (List.getElem?_eq_some_iff.1 hx).1
 have hl : (ez sp raw)[t]? = some (ey p x) := by
  unfold ez
  rw [List.getElem?_zipWith, hp, hx]
 unfold uR
 rw [bA _ t _ hl, gP raw t x hx, List.set_append_right _ _ (by rw [List.length_take]; omega), List.length_take, ky h, show t - min t sp.length = 0 by omega]
 simp
theorem zt {l : List Int} {x : Int} (h : l[t]? = some x) : l.set t x = l := by
 apply List.ext_getElem?
 intro i
 rw [List.getElem?_set]
 split
 ·rename_i e
  subst e
  rw [h]
  have := (List.getElem?_eq_some_iff.1 h).1
  rw [iP this]
 rfl
section
variable {w wr : World} {D4 D8 D n cq cs : Nat} {x : Rc} {g : Fl} {fi bl seq gf slot : Int} {Q Qs : Option Addr} {sp : List eB} {raw : List Int}
theorem qC.Qf {gs : Nat} (h : qC w wr D4 D8 D x g fi bl Q n cq sp (some ⟨gs, 0, none⟩) cs raw seq gf slot) (t : Nat) (y : Int) : qC w (wr.setCell ⟨gs, t, none⟩ (.int .i64 y)) D4 D8 D x g fi bl Q n cq sp (some ⟨gs, 0, none⟩) cs (raw.set t y) seq gf slot := by
 have dX := h.sv.stored t (.int .i64 y)
 have hg := (h.sv.lt _ rfl).1
 refine ⟨h.below.setCell (p := ⟨gs, t, none⟩) hg _, bN h.o4 dX.2 (fun g' du e' => aL h.sv h.o4 (by decide) g' e' du), bN h.o8 dX.2 (fun g' du e' => aL h.sv h.o8 (by decide) g' e' du), ?_, bN h.sp dX.2 (fun g' du e' => aL h.sv h.sp (by decide) g' e' du), ?_, h.ne⟩
 ·rw [List.length_set]
  exact bN h.o dX.2 (fun g' du e' => aL h.sv h.o (by decide) g' e' du)
 rw [List.length_set]
 have e : aA (raw.set t y) = (aA raw).set t (.int .i64 y) := by simp [aA]
 rw [e]
 exact dX.1
end
theorem qC.other {wr : World} {D4 D8 D n cq cs : Nat} {fi bl seq gf slot : Int} {Q Qs : Option Addr} {raw : List Int} (h : qC w wr D4 D8 D x g fi bl Q n cq sp Qs cs raw seq gf slot) (j : Nat) (u : Value) {v : Value} 
 (ho : wr.ownsRow w.heap.size 3 1 v k xs) : (wr.setCell ⟨D, j, none⟩ u).ownsRow w.heap.size 3 1 v k xs := bN ho (h.o.stored j u).2 (fun g hg e => aL h.o ho (by decide) g e hg)
theorem BY (f : Fl) (a n : Nat) : (bT f a n).length = n := by unfold bT; simp
def Zg (X : Nat → Prop) (w : World) (v : Value) (s : St) : Prop :=
 ∃ (Q1 : Option Addr) (c1 : Nat) (Q2 : Option Addr) (c2 : Nat) (Q3 : Option Addr) (c3 : Nat), v = .agg #[.int .i64 s.first, .int .i64 s.aa, .slice Q1 s.aw.length c1, .slice Q2 s.aj.length c2, .slice Q3 s.saved.length c3, .int .i64 s.seq, .int .i64 s.block, .int .i64 s.slot, .slice none 0 0, .slice none 0 0, .int .i64 0, .int .i64 (-1), .int .i64 0, .int .i64 0, .bool false] ∧
  cn X w Q1 (bK s.aw) ∧ s.aw.length ≤ c1 ∧ c1 ≤ maxLen ∧ cn X w Q2 (aA s.aj) ∧ s.aj.length ≤ c2 ∧ c2 ≤ maxLen ∧ cn X w Q3 (aA s.saved) ∧ s.saved.length ≤ c3 ∧ c3 ≤ maxLen
def OpS (X : Nat → Prop) (w : World) (g : Fl) (fi bl : Nat) (sp : List eB) (e : Ending) (w' : World) : Prop :=
 ∃ v, e = .returned (.tuple #[v, .int .i64 (cI g fi bl sp)]) ∧ bW w w' ∧ (cI g fi bl sp = 0 → Zg X w' v (aJ g fi bl sp)) ∧ (cI g fi bl sp ≠ 0 → v = J9)
theorem OpS.no {k : Int} (he : cI g fi bl sp = k) (hk : k ≠ 0) (hb : bW w w') : OpS X w g fi bl sp (.returned (.tuple #[J9, .int .i64 k])) w' :=
 ⟨J9, by rw [he], hb, fun h => absurd (he.symm.trans h) hk, fun _ => rfl⟩
theorem Ie (hd : g.aF = false) (dP : 2 ≤ bl) (Aa : bl ≤ 16) (DB : fi + bl ≤ g.ar.length) (yU : 1 ≤ sp.length) (uw : sp.length ≤ 48) : cI g fi bl sp = if sp.any fy = true then 3 else if g.pg < cN sp.length then 11 else 0 := by
 unfold cI
 rw [hd, iN (by decide), iN oM, iN oM, iN oM]
 rfl
structure Qv where
 Q1 : Option Addr
 c1 : Nat
 Q2 : Option Addr
 c2 : Nat
 Q3 : Option Addr
 c3 : Nat
 Q4 : Option Addr
 n4 : Nat
 c4 : Nat
 Q5 : Option Addr
 n5 : Nat
 c5 : Nat
 pg : Int
 er : Int
 nb : Int
 ns : Int
abbrev Qv.l (q : Qv) (s : St) : List Value := [.int .i64 s.first, .int .i64 s.aa, .slice q.Q1 s.aw.length q.c1, .slice q.Q2 s.aj.length q.c2, .slice q.Q3 s.saved.length q.c3, .int .i64 s.seq, .int .i64 s.block, .int .i64 s.slot, .slice q.Q4 q.n4 q.c4, .slice q.Q5 q.n5 q.c5, .int .i64 q.pg, .int .i64 q.er, .int .i64 q.nb, .int .i64 q.ns, .bool s.af]
abbrev Qv.v (q : Qv) (s : St) : Value := .agg #[.int .i64 s.first, .int .i64 s.aa, .slice q.Q1 s.aw.length q.c1, .slice q.Q2 s.aj.length q.c2, .slice q.Q3 s.saved.length q.c3, .int .i64 s.seq, .int .i64 s.block, .int .i64 s.slot, .slice q.Q4 q.n4 q.c4, .slice q.Q5 q.n5 q.c5, .int .i64 q.pg, .int .i64 q.er, .int .i64 q.nb, .int .i64 q.ns, .bool s.af]
structure Tz (X : Nat → Prop) (w : World) (q : Qv) (s : St) (p : Nat) : Prop where
 vr : cn X w q.Q4 (aA s.values)
 vl : s.values.length = q.n4
 pr : lT X w q.Q5 (s.cf.drop s.done)
 pl : (s.cf.drop s.done).length = q.n5
 qA : q.pg = ((s.first + s.bH) * p + s.bg * s.k + s.done : Nat)
 er : q.er = if s.erase = true then ((s.first + s.bH : Nat) : Int) else -1
 nb : q.nb = s.bH
 ns : q.ns = s.bg
structure iE (X : Nat → Prop) (w : World) (q : Qv) (s : St) (p : Nat) : Prop where
 a : cn X w q.Q1 (bK s.aw)
 a1 : s.aw.length ≤ q.c1
 a2 : q.c1 ≤ maxLen
 b : cn X w q.Q2 (aA s.aj)
 b1 : s.aj.length ≤ q.c2
 b2 : q.c2 ≤ maxLen
 c : cn X w q.Q3 (aA s.saved)
 Rf : s.saved.length ≤ q.c3
 Re : q.c3 ≤ maxLen
 d1 : q.n4 ≤ q.c4
 d2 : q.c4 ≤ maxLen
 e1 : q.n5 ≤ q.c5
 e2 : q.c5 ≤ maxLen
 wr : s.af = false → s.bt = true → Tz X w q s p
 no : s.af = false → s.bt = false → q.n5 = 0
section
variable {X Y : Nat → Prop} {w w' : World} {q : Qv} {s : St} {p : Nat}
theorem Tz.ao (h : Tz X w q s p) (k : ah X w w') : Tz X w' q s p := ⟨h.vr.ao k, h.vl, h.pr.ao k, h.pl, h.qA, h.er, h.nb, h.ns⟩
theorem Tz.dS (h : Tz X w q s p) (hY : ∀ b, b < w.heap.size → Y b → X b) : Tz Y w q s p := ⟨h.vr.dS hY, h.vl, h.pr.dS hY, h.pl, h.qA, h.er, h.nb, h.ns⟩
theorem iE.ao (h : iE X w q s p) (k : ah X w w') : iE X w' q s p := ⟨h.a.ao k, h.a1, h.a2, h.b.ao k, h.b1, h.b2, h.c.ao k, h.Rf, h.Re, h.d1, h.d2, h.e1, h.e2, fun e1 e2 => (h.wr e1 e2).ao k, h.no⟩
theorem iE.dS (h : iE X w q s p) (hY : ∀ b, b < w.heap.size → Y b → X b) : iE Y w q s p := ⟨h.a.dS hY, h.a1, h.a2, h.b.dS hY, h.b1, h.b2, h.c.dS hY, h.Rf, h.Re, h.d1, h.d2, h.e1, h.e2, fun e1 e2 => (h.wr e1 e2).dS hY, h.no⟩
theorem iE.below (h : iE X w q s p) (hb : bW w w') : iE X w' q s p := h.ao (.ak hb)
end
theorem Zg.rv {v : Value} {p : Nat} (h : Zg X w v s) (hb : s.af = false) (hu : s.bt = false) : ∃ q : Qv, v = q.v s ∧ iE X w q s p := by
 obtain ⟨Q1, c1, Q2, c2, Q3, c3, rfl, r1, AY, uP, r2, r21, r22, r3, r31, r32⟩ := h
 exact ⟨⟨Q1, c1, Q2, c2, Q3, c3, none, 0, 0, none, 0, 0, 0, -1, 0, 0⟩, by rw [Qv.v, hb], r1, AY, uP, r2, r21, r22, r3, r31, r32, Nat.le_refl _, Nat.zero_le _, Nat.le_refl _, Nat.zero_le _, (fun _ e => by rw [hu] at e; cases e), fun _ _ => rfl⟩
structure Bq (w wr : World) (D D8 : Nat) (l : List Value) : Prop where
 below : bW w wr
 o8 : wr.ownsRow w.heap.size 43 15 (.slice (some ⟨D8, 0, none⟩) 1 1) 1 zL
 o : wr.ownsRow w.heap.size 43 15 (.slice (some ⟨D, 0, none⟩) 1 1) 1 l
 len : l.length = 15
 ne : D8 ≠ D
section
variable {w wr w' : World} {D D8 : Nat} {l : List Value}
theorem Bq.ab (h : Bq w wr D D8 l) (hb : bW wr w') : Bq w w' D D8 l := ⟨h.below.trans (hb.mono h.below.size), aC h.o8 hb, aC h.o hb, h.len, h.ne⟩
theorem Bq.row (h : Bq w wr D D8 l) (j : Nat) (u : Value) (hj : l[j]? = some u) : wr.cell? ⟨D, j, none⟩ = some u := by
 have aY : j < 15 := by
  have := (List.getElem?_eq_some_iff.1 hj).1
  rw [h.len] at this
  exact this
 rw [h.o.cellAt j oM]
 exact hj
theorem Bq.fz (h : Bq w wr D D8 l) (j : Nat) : wr.frozen? ⟨D, j, none⟩ = false := h.o.frozenAt _
theorem Bq.z (h : Bq w wr D D8 l) (j : Nat) (u : Value) (hj : zL[j]? = some u) : wr.cell? ⟨D8, j, none⟩ = some u := by
 have aY : j < 15 := by
  have := (List.getElem?_eq_some_iff.1 hj).1
  simpa [zL] using this
 rw [h.o8.cellAt j oM]
 exact hj
theorem Bq.zf (h : Bq w wr D D8 l) (j : Nat) : wr.frozen? ⟨D8, j, none⟩ = false := h.o8.frozenAt _
theorem Bq.Jg (h : Bq w wr D D8 l) : w.heap.size ≤ D ∧ w.heap.size ≤ D8 := ⟨(h.o.lt _ rfl).1, (h.o8.lt _ rfl).1⟩
theorem Bq.set (h : Bq w wr D D8 l) (j : Nat) (u : Value) : Bq w (wr.setCell ⟨D, j, none⟩ u) D D8 (l.set j u) := by
 have h1 := h.o.stored j u
 refine ⟨h.below.setCell (p := ⟨D, j, none⟩) h.Jg.1 _, ?_, h1.1, by rw [List.length_set]; exact h.len, h.ne⟩
 refine bN h.o8 h1.2 (fun g' hg e => ?_)
 have e1 : D8 = g' := by simpa [Value.ownBlock] using hg
 have e2 : D = g' := by simpa using e
 exact h.ne (e1.trans e2.symm)
theorem Bq.aside (h : Bq w wr D D8 l) (j : Nat) (u : Value) {e size : Nat} {v : Value} (ho : wr.ownsRow w.heap.size e size v k xs) (he : e ≠ 43) : (wr.setCell ⟨D, j, none⟩ u).ownsRow w.heap.size e size v k xs :=
 bN ho (h.o.stored j u).2 (fun g hg e' => aL h.o ho oM g e' hg)
end
abbrev aS (q : Qv) (s : St) : Array Value := #[.int .i64 s.first, .int .i64 s.aa, .slice q.Q1 s.aw.length q.c1, .slice q.Q2 s.aj.length q.c2, .slice q.Q3 s.saved.length q.c3, .int .i64 s.seq, .int .i64 s.block, .int .i64 s.slot, .slice q.Q4 q.n4 q.c4, .slice q.Q5 q.n5 q.c5, .int .i64 q.pg, .int .i64 q.er, .int .i64 q.nb, .int .i64 q.ns, .bool s.af]
abbrev Px (q : Qv) (s : St) (b : Bool) : Array Value := #[.int .i64 s.first, .int .i64 s.aa, .slice q.Q1 s.aw.length q.c1, .slice q.Q2 s.aj.length q.c2, .slice q.Q3 s.saved.length q.c3, .int .i64 s.seq, .int .i64 s.block, .int .i64 s.slot, .slice q.Q4 q.n4 q.c4, .slice q.Q5 q.n5 q.c5, .int .i64 q.pg, .int .i64 q.er, .int .i64 q.nb, .int .i64 q.ns, .bool b]
abbrev ud (q : Qv) (s : St) (v : Value) (i j : Int) (b : Bool) : Array Value := #[.int .i64 s.first, .int .i64 s.aa, .slice q.Q1 s.aw.length q.c1, .slice q.Q2 s.aj.length q.c2, .slice q.Q3 s.saved.length q.c3, .int .i64 s.seq, .int .i64 s.block, .int .i64 s.slot, .slice q.Q4 q.n4 q.c4, v, .int .i64 i, .int .i64 j, .int .i64 q.nb, .int .i64 q.ns, .bool b]
abbrev mz (q : Qv) (s : St) (n : Nat) (u v : Value) (i j k l : Int) (b : Bool) : Array Value := #[.int .i64 s.first, .int .i64 s.aa, .slice q.Q1 n q.c1, .slice q.Q2 n q.c2, .slice q.Q3 n q.c3, .int .i64 s.seq, .int .i64 s.block, .int .i64 s.slot, u, v, .int .i64 i, .int .i64 j, .int .i64 k, .int .i64 l, .bool b]
abbrev UR (q : Qv) (s : St) (x y z : Value) (b : Bool) : Array Value := #[.int .i64 s.first, .int .i64 s.aa, x, y, z, .int .i64 s.seq, .int .i64 s.block, .int .i64 s.slot, .slice q.Q4 q.n4 q.c4, .slice q.Q5 q.n5 q.c5, .int .i64 q.pg, .int .i64 q.er, .int .i64 q.nb, .int .i64 q.ns, .bool b]
theorem Fi (a b : List Int) : ch (a ++ b) = (ch a && ch b) := by unfold ch; exact List.all_append
theorem Aw (f : Fl) (a n : Nat) : ch ((f.img.drop (64 * a)).take (64 * n)) = cG f a n := by
 induction n with
 | zero => rfl
 | succ n ih =>
  rw [ub, show 64 * (n + 1) = 64 * n + 64 by omega, List.take_add, Fi, ih, List.drop_drop]
  congr 2
  unfold aB
  rw [show 64 * a + 64 * n = 64 * (a + n) by omega]
theorem Po (h : ca X w x g) (a n : Nat) (hn : 1 ≤ n) (SX : a + n ≤ g.ar.length * g.pg) :
 Calls prog 112 #[x.v g, .int .i64 (a : Int), .int .i64 (n : Int)] w fun e w' => e = .returned (.bool (cG g a n)) ∧ bW w w' := by
 have qn := h.lE
 have hlen := h.ok.len
 have mv := h.a1
 have rU := h.a2
 have H := iD h
 rw [← Aw]
 obtain ⟨NI, wh⟩ := ex g.img.length
 have hhi : 64 * a + 64 * n ≤ NI := by rw [← wh, hlen]; omega
 have lV : Hid (((g.img.drop (64 * a)).take (64 * n)).length = 64 * n) := by rw [Hid, List.length_take, List.length_drop, wh]; omega
 have Zu : Hid (Bytes ((g.img.drop (64 * a)).take (64 * n))) := fun y hy => h.ok.wP y (List.mem_of_mem_drop (List.mem_of_mem_take hy))
 rw [wh] at qn mv
 obtain ⟨A, c, B, d, P, r⟩ := x
 simp only at mv rU
 unfold maxLen at rU
 show Calls prog 112 #[.agg #[.slice A g.img.length c, .int .i64 g.pg, .slice B g.ar.length d, .bool g.aF, .int .i64 g.be, .slice P g.az.length r], _, _] w _
 rw [wh]
 obtain ⟨V, hV⟩ := ex (w.alloc (.cells #[.slice A NI c, .int .i64 g.pg, .slice B g.ar.length d, .bool g.aF, .int .i64 g.be, .slice P g.az.length r] 35))
 have oY : Hid (bW w V) := by rw [← hV]; exact bI _ _
 have v0 : V.cell? ⟨w.heap.size, 0, none⟩ = some (.slice A NI c) := by rw [← hV]; exact bO _ _ _ _ _ _ rfl rfl
 have Tb : Rd w w.heap.size A (ag .u8 g.img) := H.a.rd
 have hA : ∃ bb off, A = some ⟨bb, off, none⟩ := by
  obtain ⟨b, off, e, _⟩ := Tb (by
   intro e
   have := congrArg List.length e
   rw [aD, wh] at this
   simp at this
   omega)
  exact ⟨b, off, e⟩
 obtain ⟨bb, off, rfl⟩ := hA
 have J3 : Hid (Rd w w.heap.size (some ⟨bb, off + 64 * a, none⟩) (ag .u8 ((g.img.drop (64 * a)).take (64 * n)))) := Tb.part (64 * a) (64 * n)
 obtain ⟨l, hl⟩ := ex ((g.img.drop (64 * a)).take (64 * n))
 rw [hl] at J3 lV Zu ⊢
 obtain ⟨m, hm⟩ := ex (64 * n)
 rw [hm] at lV
 have k0 : IntKind.i64.wrap (64 * (a : Int)) = 64 * (a : Int) := bf _ oM oM
 have k00 : IntKind.i64.wrap ((a : Int) + (n : Int)) = (a : Int) + (n : Int) := bf _ oM oM
 have k01 : IntKind.i64.wrap (64 * ((a : Int) + (n : Int))) = 64 * ((a : Int) + (n : Int)) := bf _ oM oM
 have k1 : 64 * (a : Int) ≤ 64 * ((a : Int) + (n : Int)) := oM
 have k2 : 64 * ((a : Int) + (n : Int)) ≤ (c : Int) := oM
 have k3 : (0 : Int) ≤ 64 * (a : Int) := oM
 have k4 : (64 * (a : Int)).toNat = 64 * a := oM
 have k5 : (64 * ((a : Int) + (n : Int))).toNat = 64 * a + m := oM
 have k6 : ¬ (c = 64 * a) := oM
 have k7 : 64 * a + m - 64 * a = m := oM
 have JP : m ≤ 1000000 := oM
 clear h wh hlen Tb hl hm
 go_enter func112, ntmps112
 go_wp2
 try rw [hV]
 clear hV
 go_loopw [19] (fun i wr => ∃ k : Nat, k ≤ m ∧ i = .int .i64 k ∧ ch (l.take k) = true ∧ bW w wr) (fun i _ => m - (intOf i).toNat)
 case atStart => exact ⟨0, oM, rfl, rfl, oY⟩
 case round =>
  obtain ⟨k, hk, rfl, oK, cO⟩ := hrel
  have Ye := iD oK
  have Bm := iD cO
  clear oK cO
  by_cases aY : k < m
  ·obtain ⟨y, hy⟩ := getElem?_of_lt (l := l) (k := k) (by rw [lV]; exact aY)
   obtain ⟨ba, uq, e, _, c0⟩ := (J3.below Bm cV).mq hy
   injection e with e
   injection e with e1 e2
   subst e1
   subst e2
   have HY := iD hy
   clear hy
   by_cases h255 : y = 255
   ·subst h255
    go_wp2
    go_roundw
    case rel => exact ⟨k + 1, oM, by go_num, lJ HY Ye rfl, Bm⟩
    case measure => simp [intOf]; omega
   have gB : (y != 255) = true := by simpa using h255
   have FI : Hid (ch l = false) := oU HY h255
   clear h255
   go_wp2
   go_ret
   exact ⟨by rw [FI]; rfl, Bm⟩
  have kE : k = m := oM
  subst kE
  have HE : Hid (ch l = true) := by
   have := Ye.out
   rw [List.take_of_length_le (by rw [lV]; exact Nat.le_refl _)] at this
   exact this
  go_wp2
  go_ret
  exact ⟨by rw [HE]; rfl, Bm⟩
theorem OU (x : Rc) (g : Fl) (f : Nat) (Q : Option Addr) (n cq : Nat) (u1 u3 u4 u5 u6 u7 u8 u9 JL JK JJ JI FX : Value) (b j : Nat) (w : World) (Nr : f ≤ 64) (hb : b ≤ 64) (hj : j ≤ 64) (hn : n ≤ 48) (hp : g.pg ≤ 16) :
 Calls prog 81 #[.agg #[.int .i64 (f : Int), u1, .slice Q n cq, u3, u4, u5, u6, u7, u8, u9, JL, JK, JJ, JI, FX], x.v g, .int .i64 b, .int .i64 j] w fun e w' => e = .returned (.int .i64 (((f + b) * g.pg + j * cN n : Nat) : Int)) ∧ bW w w' := by
 obtain ⟨B, cc, D, d, P, r⟩ := x
 show Calls prog 81 #[.agg #[.int .i64 (f : Int), u1, .slice Q n cq, u3, u4, u5, u6, u7, u8, u9, JL, JK, JJ, JI, FX], .agg #[.slice B g.img.length cc, .int .i64 g.pg, .slice D g.ar.length d, .bool g.aF, .int .i64 g.be, .slice P g.az.length r], _, _] w _
 have jh : Hid (∀ w, Calls prog 80 #[.int .i64 (n : Int)] w fun e w' => e = .returned (.int .i64 (cN n : Nat)) ∧ w' = w) := fun w => (oF n oM w).mono fun _ _ h => ⟨h.1, h.2.symm⟩
 have jE := jL hn
 obtain ⟨K, hK⟩ := ex (cN n)
 obtain ⟨pg, iA⟩ := ex g.pg
 obtain ⟨fb, DB⟩ := ex (f + b)
 obtain ⟨M1, Ab⟩ := ex (fb * pg)
 obtain ⟨M2, CB⟩ := ex (j * K)
 rw [hK] at jh jE
 rw [iA] at hp
 have WL : M1 ≤ 128 * 16 := by rw [← Ab]; exact Nat.mul_le_mul oM hp
 have aaO : M2 ≤ 64 * 8 := by rw [← CB]; exact Nat.mul_le_mul hj jE
 rw [hK, iA, DB, Ab, CB]
 have t1 : IntKind.i64.wrap ((f : Int) + (b : Int)) = (fb : Int) := by rw [show (f : Int) + (b : Int) = (fb : Int) by omega]; exact bf _ oM oM
 have t2 : IntKind.i64.wrap ((fb : Int) * (pg : Int)) = (M1 : Int) := by
  have e : (fb : Int) * (pg : Int) = (M1 : Int) := by rw [← Ab]; push_cast; rfl
  rw [e]
  exact bf _ oM oM
 have t3 : IntKind.i64.wrap ((j : Int) * (K : Int)) = (M2 : Int) := by
  have e : (j : Int) * (K : Int) = (M2 : Int) := by rw [← CB]; push_cast; rfl
  rw [e]
  exact bf _ oM oM
 have t4 : IntKind.i64.wrap ((M1 : Int) + (M2 : Int)) = ((M1 + M2 : Nat) : Int) := by
  have e : (M1 : Int) + (M2 : Int) = ((M1 + M2 : Nat) : Int) := by push_cast; rfl
  rw [e]
  exact bf _ oM oM
 generalize M1 + M2 = M at *
 clear hK iA DB Ab CB
 go_enter func81, ntmps81
 go_wp2
 go_quiet ((go_at_call 80; with_reducible exact Calls.quiet_of_same (jh.out _)))
 go_wp2
 go_ret
 exact ⟨rfl, Below.drewN (ck _ _ _) _⟩
def X2 (X : Nat → Prop) (N b : Nat) : Prop := X b ∨ b = N ∨ b = N + 1
theorem cn.two {A : Option Addr} (h : cn X w A xs) : cn (X2 X w.heap.size) w A xs := fun hx => by
 obtain ⟨b, off, e, aY, hn, hc⟩ := h hx
 exact ⟨b, off, e, aY, fun h2 => by
  rcases h2 with h2 | h2 | h2
  ·exact hn h2
  ·omega
  omega, hc⟩
theorem tw {M : Nat} (h : ∀ b, X b → b < N) (hM : N + 1 < M) : ∀ b, X2 X N b → b < M := fun b hb => by
 rcases hb with hb | hb | hb
 ·have := h b hb; omega
 ·omega
 omega
theorem fj (X : Nat → Prop) (N : Nat) : X2 X N N := .inr (.inl rfl)
theorem jk (X : Nat → Prop) (N : Nat) : X2 X N (N + 1) := .inr (.inr rfl)
def iM (w : World) (B : Nat) (a b c d e f : Value) : Prop :=
 w.cell? ⟨B, 0, none⟩ = some a ∧ w.cell? ⟨B, 1, none⟩ = some b ∧ w.cell? ⟨B, 2, none⟩ = some c ∧ w.cell? ⟨B, 3, none⟩ = some d ∧ w.cell? ⟨B, 4, none⟩ = some e ∧ w.cell? ⟨B, 5, none⟩ = some f ∧ ∀ j, w.frozen? ⟨B, j, none⟩ = false
theorem qM (w : World) (a b c d e f : Value) (t : TypeId) (B : Nat) (hB : B = w.heap.size) : iM (w.alloc (.cells #[a, b, c, d, e, f] t)) B a b c d e f := by
 subst hB
 exact ⟨bO _ _ _ _ _ _ rfl rfl, bO _ _ _ _ _ _ rfl rfl, bO _ _ _ _ _ _ rfl rfl, bO _ _ _ _ _ _ rfl rfl, bO _ _ _ _ _ _ rfl rfl, bO _ _ _ _ _ _ rfl rfl, fun j => m8 (nS w _ t)⟩
theorem iM.below (h : iM w B a b c d e f) (hb : Below N w w') (hB : B < N) : iM w' B a b c d e f :=
 ⟨(hb.cell (p := ⟨B, 0, none⟩) hB).trans h.1, (hb.cell (p := ⟨B, 1, none⟩) hB).trans h.2.1, (hb.cell (p := ⟨B, 2, none⟩) hB).trans h.2.2.1, (hb.cell (p := ⟨B, 3, none⟩) hB).trans h.2.2.2.1, (hb.cell (p := ⟨B, 4, none⟩) hB).trans h.2.2.2.2.1, (hb.cell (p := ⟨B, 5, none⟩) hB).trans h.2.2.2.2.2.1, fun j => (hb.frozen (p := ⟨B, j, none⟩) hB).trans (h.2.2.2.2.2.2 j)⟩
theorem iM.lt (h : iM w B a b c d e f) : B < w.heap.size := World.block_lt_of_cell? w _ h.1
theorem uL (w : World) (a b c d e f a' b' c' d' e' f' : Value) (t u : TypeId) :
 iM ((w.alloc (.cells #[a, b, c, d, e, f] t)).alloc (.cells #[a', b', c', d', e', f'] u)) w.heap.size a b c d e f ∧ iM ((w.alloc (.cells #[a, b, c, d, e, f] t)).alloc (.cells #[a', b', c', d', e', f'] u)) (w.heap.size + 1) a' b' c' d' e' f' := by
 have hs := World.size_alloc w (.cells #[a, b, c, d, e, f] t)
 exact ⟨(qM w a b c d e f t _ rfl).below (bV.alloc cV _) oM, qM _ _ _ _ _ _ _ _ _ hs.symm⟩
theorem ca.setCell (h : ca X w x g) (p : Addr) (u : Value) (hp : X p.block) : ca X (w.setCell p u) x g :=
 ⟨h.ok, h.a.setCell p u hp, h.a1, h.a2, h.b.setCell p u hp, h.b1, h.b2, h.p.setCell p u hp, h.p1, h.p2⟩
theorem ca.cU {Y : Nat → Prop} (h : ca X w x g) (hX : ∀ b, Y b → X b) : ca Y w x g :=
 ⟨h.ok, h.a.cU hX, h.a1, h.a2, h.b.cU hX, h.b1, h.b2, h.p.cU hX, h.p1, h.p2⟩
theorem ca.two (h : ca X w x g) : ca (X2 X w.heap.size) w x g :=
 ⟨h.ok, h.a.two, h.a1, h.a2, h.b.two, h.b1, h.b2, h.p.two, h.p1, h.p2⟩
theorem ca.cut (h : ca X w x g) : ca X w x (dy g).1 := by
 obtain ⟨e1, e2, e3, e4⟩ := dY g
 obtain ⟨g1, g2⟩ := s7 h.ok.LK h.ok.LJ
 refine ⟨⟨by rw [e1]; exact h.ok.p1, by rw [e1]; exact h.ok.p2, by rw [e3]; exact h.ok.b1, by rw [e3]; exact h.ok.b2, by rw [e1, e2, e3]; exact h.ok.len, by rw [e2]; exact h.ok.wP, by rw [e4]; exact h.ok.yB, g1, g2⟩, by rw [e2]; exact h.a, by rw [e2]; exact h.a1, h.a2, by rw [e3]; exact h.b, by rw [e3]; exact h.b1, h.b2, by rw [e4]; exact h.p, by rw [e4]; exact h.p1, h.p2⟩
theorem Ra (A : Option Addr) (c : Nat) (B : Option Addr) (d : Nat) (P : Option Addr) (r : Nat) (g : Fl) :
 (Rc.mk A c B d P r).v (dy g).1 = .agg #[.slice A g.img.length c, .int .i64 g.pg, .slice B g.ar.length d, .bool (dy g).1.aF, .int .i64 (dy g).1.be, .slice P g.az.length r] := by
 obtain ⟨e1, e2, e3, e4⟩ := dY g
 unfold Rc.v
 rw [e1, e2, e3, e4]
def pX (w : World) (B : Nat) (a b c d e f : Value) : World := (((((w.setCell ⟨B, 0, none⟩ a).setCell ⟨B, 1, none⟩ b).setCell ⟨B, 2, none⟩ c).setCell ⟨B, 3, none⟩ d).setCell ⟨B, 4, none⟩ e).setCell ⟨B, 5, none⟩ f
theorem yz (w : World) (B : Nat) (a b c d e f : Value) : (pX w B a b c d e f).heap.size = w.heap.size := by simp [pX, World.setCell]
theorem cC (w : World) (p q : Addr) (u : Value) (h : p ≠ q) : (w.setCell p u).cell? q = w.cell? q := World.cell?_setCell_other _ _ _ _ h
theorem iM.iF (h : iM w B a b c d e f) (u : Value) : iM (w.setCell ⟨B, 0, none⟩ u) B u b c d e f :=
 ⟨World.cell?_setCell_same _ _ _ h.1, (cC _ _ _ _ (by simp)).trans h.2.1, (cC _ _ _ _ (by simp)).trans h.2.2.1, (cC _ _ _ _ (by simp)).trans h.2.2.2.1, (cC _ _ _ _ (by simp)).trans h.2.2.2.2.1, (cC _ _ _ _ (by simp)).trans h.2.2.2.2.2.1, fun j => by rw [World.frozen?_setCell]; exact h.2.2.2.2.2.2 j⟩
theorem iM.Vq (h : iM w B a b c d e f) (u : Value) : iM (w.setCell ⟨B, 1, none⟩ u) B a u c d e f :=
 ⟨(cC _ _ _ _ (by simp)).trans h.1, World.cell?_setCell_same _ _ _ h.2.1, (cC _ _ _ _ (by simp)).trans h.2.2.1, (cC _ _ _ _ (by simp)).trans h.2.2.2.1, (cC _ _ _ _ (by simp)).trans h.2.2.2.2.1, (cC _ _ _ _ (by simp)).trans h.2.2.2.2.2.1, fun j => by rw [World.frozen?_setCell]; exact h.2.2.2.2.2.2 j⟩
theorem iM.Vp (h : iM w B a b c d e f) (u : Value) : iM (w.setCell ⟨B, 2, none⟩ u) B a b u d e f :=
 ⟨(cC _ _ _ _ (by simp)).trans h.1, (cC _ _ _ _ (by simp)).trans h.2.1, World.cell?_setCell_same _ _ _ h.2.2.1, (cC _ _ _ _ (by simp)).trans h.2.2.2.1, (cC _ _ _ _ (by simp)).trans h.2.2.2.2.1, (cC _ _ _ _ (by simp)).trans h.2.2.2.2.2.1, fun j => by rw [World.frozen?_setCell]; exact h.2.2.2.2.2.2 j⟩
theorem iM.Vo (h : iM w B a b c d e f) (u : Value) : iM (w.setCell ⟨B, 3, none⟩ u) B a b c u e f :=
 ⟨(cC _ _ _ _ (by simp)).trans h.1, (cC _ _ _ _ (by simp)).trans h.2.1, (cC _ _ _ _ (by simp)).trans h.2.2.1, World.cell?_setCell_same _ _ _ h.2.2.2.1, (cC _ _ _ _ (by simp)).trans h.2.2.2.2.1, (cC _ _ _ _ (by simp)).trans h.2.2.2.2.2.1, fun j => by rw [World.frozen?_setCell]; exact h.2.2.2.2.2.2 j⟩
theorem iM.BJ (h : iM w B a b c d e f) (u : Value) : iM (w.setCell ⟨B, 4, none⟩ u) B a b c d u f :=
 ⟨(cC _ _ _ _ (by simp)).trans h.1, (cC _ _ _ _ (by simp)).trans h.2.1, (cC _ _ _ _ (by simp)).trans h.2.2.1, (cC _ _ _ _ (by simp)).trans h.2.2.2.1, World.cell?_setCell_same _ _ _ h.2.2.2.2.1, (cC _ _ _ _ (by simp)).trans h.2.2.2.2.2.1, fun j => by rw [World.frozen?_setCell]; exact h.2.2.2.2.2.2 j⟩
theorem iM.ZR (h : iM w B a b c d e f) (u : Value) : iM (w.setCell ⟨B, 5, none⟩ u) B a b c d e u :=
 ⟨(cC _ _ _ _ (by simp)).trans h.1, (cC _ _ _ _ (by simp)).trans h.2.1, (cC _ _ _ _ (by simp)).trans h.2.2.1, (cC _ _ _ _ (by simp)).trans h.2.2.2.1, (cC _ _ _ _ (by simp)).trans h.2.2.2.2.1, World.cell?_setCell_same _ _ _ h.2.2.2.2.2.1, fun j => by rw [World.frozen?_setCell]; exact h.2.2.2.2.2.2 j⟩
theorem iM.put (h : iM w B a b c d e f) (a' b' c' d' e' f' : Value) : iM (pX w B a' b' c' d' e' f') B a' b' c' d' e' f' :=
 (((((h.iF a').Vq b').Vp c').Vo d').BJ e').ZR f'
theorem iM.Fo (h : iM w B a b c d e f) (p : Addr) (u : Value) (hp : p.block ≠ B) : iM (w.setCell p u) B a b c d e f := by
 have k : ∀ j, (w.setCell p u).cell? ⟨B, j, none⟩ = w.cell? ⟨B, j, none⟩ := fun j => cC _ _ _ _ (by intro e; exact hp (by rw [e]))
 exact ⟨(k 0).trans h.1, (k 1).trans h.2.1, (k 2).trans h.2.2.1, (k 3).trans h.2.2.2.1, (k 4).trans h.2.2.2.2.1, (k 5).trans h.2.2.2.2.2.1, fun j => by rw [World.frozen?_setCell]; exact h.2.2.2.2.2.2 j⟩
theorem iM.LU (h : iM w B a b c d e f) (hC : C ≠ B) (a' b' c' d' e' f' : Value) : iM (pX w C a' b' c' d' e' f') B a b c d e f :=
 (((((h.Fo _ _ hC).Fo _ _ hC).Fo _ _ hC).Fo _ _ hC).Fo _ _ hC).Fo _ _ hC
theorem ca.pX (h : ca X w x g) (hC : X C) (a' b' c' d' e' f' : Value) : ca X (pX w C a' b' c' d' e' f') x g :=
 (((((h.setCell _ _ hC).setCell _ _ hC).setCell _ _ hC).setCell _ _ hC).setCell _ _ hC).setCell _ _ hC
theorem qy {w0 : World} (h : Below N w0 w) (hC : N ≤ C) (a' b' c' d' e' f' : Value) : Below N w0 (pX w C a' b' c' d' e' f') :=
 (((((h.setCell (p := ⟨C, 0, none⟩) hC _).setCell (p := ⟨C, 1, none⟩) hC _).setCell (p := ⟨C, 2, none⟩) hC _).setCell (p := ⟨C, 3, none⟩) hC _).setCell (p := ⟨C, 4, none⟩) hC _).setCell (p := ⟨C, 5, none⟩) hC _
theorem mm (h : ca X w x g) (hX : ∀ b, X b → b < w.heap.size) (page : Int) (Q : Option Addr) (m q : Nat) (b : List Int) (hQ : Rd w w.heap.size Q (ag .u8 b)) (hm : b.length = m) (hmq : m ≤ q) (hqm : q ≤ maxLen) (hb : Bytes b) :
 Calls prog 27 #[x.v g, .int .i64 page, .slice Q m q] w fun e w' => ∃ y : Rc, e = .returned (.tuple #[y.v (bz g page b).1, .int .i64 (bz g page b).2]) ∧ ca X w' y (bz g page b).1 ∧ bW w w' := by
 have H := iD h
 have HX := iD hX
 have HQ := iD hQ
 have HM := iD hm
 have uh := iD hb
 unfold maxLen at hqm
 obtain ⟨A, c, B, d, P, r⟩ := x
 show Calls prog 27 #[.agg #[.slice A g.img.length c, .int .i64 g.pg, .slice B g.ar.length d, .bool g.aF, .int .i64 g.be, .slice P g.az.length r], _, _] w _
 obtain ⟨V, hV⟩ := ex ((w.alloc (.cells #[.slice A g.img.length c, .int .i64 g.pg, .slice B g.ar.length d, .bool g.aF, .int .i64 g.be, .slice P g.az.length r] 35)).alloc (.cells Bi 35))
 have oY : Hid (bW w V) := by rw [← hV]; exact ck _ _ _
 have h6 := uL w (.slice A g.img.length c) (.int .i64 g.pg) (.slice B g.ar.length d) (.bool g.aF) (.int .i64 g.be) (.slice P g.az.length r) (.slice none 0 0) (.int .i64 0) (.slice none 0 0) (.bool false) (.int .i64 0) (.slice none 0 0) 35 35
 rw [hV] at h6
 have H6 := iD h6
 have hgV : w.heap.size + 1 < V.heap.size := h6.2.lt
 have hRV : ∀ b, X b → b < V.heap.size := fun b hb => by have := hX b hb; omega
 have pz := iD (yw (h.below oY) hRV page)
 clear hRV
 unfold bz
 by_cases h0 : lY g page ≠ 0
 ·rw [iP h0]
  have hr : ft g page = ([], lY g page) := by unfold ft; rw [iP h0]
  rw [hr] at pz
  have hk : (lY g page != 0) = true := by simpa using h0
  generalize lY g page = k at *
  obtain ⟨a0, a1, a2, a3, a4, a5, _⟩ := h6.1
  clear h hX hQ hm hb h6 hr h0
  go_enter func27, ntmps27
  go_wp2_with (fail)
  try rw [hV]
  clear hV a0 a1 a2 a3 a4 a5
  refine pz.mono ?_
  rintro e w2 ⟨A2, n2, c2, rfl, qY, uz, nT, nQ, dP⟩
  have gh : Hid (bW w w2) := oY.trans (dP.mono oY.size)
  have DR := iD (H6.1.below dP oM)
  have Bp := iD (H6.2.below dP oM)
  clear qY nQ dP
  simp only
  obtain ⟨a0, a1, a2, a3, a4, a5, a6⟩ := DR.out
  obtain ⟨b0, b1, b2, b3, b4, b5, b6⟩ := Bp.out
  have e0 := b6 0
  have e1 := b6 1
  have e2 := b6 2
  have e3 := b6 3
  have e4 := b6 4
  have e5 := b6 5
  clear a6 b6
  go_wp2
  (try simp only [Exit.inBlock, Exit.then])
  refine bodyPost_ret (v := .tuple #[(Rc.mk A c B d P r).v g, .int .i64 k]) ?_ rfl ⟨⟨A, c, B, d, P, r⟩, rfl, ca.cU (X := X2 X w.heap.size) ?_ (fun _ => .inl), ?_⟩
  ·rw [results_cell_tmp rfl]
   simp only [Rc.v]
   go_simp
  ·(repeat (refine ca.setCell ?_ _ _ (by first | exact fj _ _ | exact jk _ _)))
   exact H.two.below gh
  (repeat (refine Below.setCell ?_ (by simp only; omega) _))
  exact gh
 rw [iN h0]
 have h0' : lY g page = 0 := oM
 obtain ⟨hd, Ba, rR⟩ := rE h0'
 obtain ⟨p, rfl⟩ : ∃ p : Nat, page = (p : Int) := ⟨page.toNat, oM⟩
 simp only [Int.toNat_natCast]
 have hr : ft g (p : Int) = (aB g p, 0) := by unfold ft; rw [iN h0]; simp only [Int.toNat_natCast]
 rw [hr] at pz
 have qn := h.lE
 have Ux : 64 * p + 64 ≤ g.img.length := by
  rw [h.ok.len]
  have : p + 1 ≤ g.ar.length * g.pg := oM
  omega
 have fA : (aB g p).length = 64 := by unfold aB; rw [List.length_take, List.length_drop]; omega
 have lV := iD fA
 rw [hm]
 by_cases hlen : m ≠ 64
 ·rw [iP hlen]
  have hk : ((m : Int) != 64) = true := by simp; omega
  obtain ⟨a0, a1, a2, a3, a4, a5, _⟩ := h6.1
  clear h hX hQ hm hb h6 hr h0 h0' fA hlen Ux qn Ba rR hd
  go_enter func27, ntmps27
  go_wp2_with (fail)
  try rw [hV]
  clear hV a0 a1 a2 a3 a4 a5
  refine pz.mono ?_
  rintro e w2 ⟨A2, n2, c2, rfl, qY, uz, nT, nQ, dP⟩
  have gh : Hid (bW w w2) := oY.trans (dP.mono oY.size)
  have DR := iD (H6.1.below dP oM)
  have Bp := iD (H6.2.below dP oM)
  clear qY nQ dP
  simp only
  obtain ⟨a0, a1, a2, a3, a4, a5, a6⟩ := DR.out
  obtain ⟨b0, b1, b2, b3, b4, b5, b6⟩ := Bp.out
  have e0 := b6 0
  have e1 := b6 1
  have e2 := b6 2
  have e3 := b6 3
  have e4 := b6 4
  have e5 := b6 5
  clear a6 b6
  go_wp2
  (try simp only [Exit.inBlock, Exit.then])
  refine bodyPost_ret (v := .tuple #[(Rc.mk A c B d P r).v g, .int .i64 11]) ?_ rfl ⟨⟨A, c, B, d, P, r⟩, rfl, ca.cU (X := X2 X w.heap.size) ?_ (fun _ => .inl), ?_⟩
  ·rw [results_cell_tmp rfl]
   simp only [Rc.v]
   go_simp
  ·(repeat (refine ca.setCell ?_ _ _ (by first | exact fj _ _ | exact jk _ _)))
   exact H.two.below gh
  (repeat (refine Below.setCell ?_ (by simp only; omega) _))
  exact gh
 have SD : m = 64 := oM
 subst SD
 rw [iN oM]
 obtain ⟨YI, Sw⟩ := ex (aB g p)
 rw [Sw] at pz lV ⊢
 obtain ⟨a0, a1, a2, a3, a4, a5, _⟩ := h6.1
 have uF := iD qn
 have PQ := iD Ux
 obtain ⟨R, hR⟩ := ex (if ch YI = false then (g, (12 : Int)) else if (dy g).2 = true then ({ (dy g).1 with img := lay g.img (64 * p) (eK b g.az) }, 20) else ({ (dy g).1 with img := lay g.img (64 * p) b }, 0))
 have EF : bz g (p : Int) b = R := by
  unfold bz
  rw [iN h0, iN oM]
  simp only [Int.toNat_natCast]
  rw [Sw]
  exact hR
 have MO : Hid R.1.ok := by rw [Hid, ← EF]; exact nL h.ok hb
 rw [hR]
 have HR := iD hR
 clear h hX hQ hm hb h6 hr h0 h0' fA hlen Ux qn Ba rR hd Sw hR EF
 go_enter func27, ntmps27
 go_wp2_with (fail)
 try rw [hV]
 clear hV a0 a1 a2 a3 a4 a5
 refine pz.mono ?_
 rintro e w2 ⟨A2, n2, c2, rfl, qY, uz, nT, nQ, dP⟩
 have gh : Hid (bW w w2) := oY.trans (dP.mono oY.size)
 have DR := iD (H6.1.below dP oM)
 have Bp := iD (H6.2.below dP oM)
 have zX : n2 = 64 := by rw [← qY]; exact lV
 subst zX
 have XL := iD nQ
 have vT : w.heap.size + 1 < w2.heap.size := Bp.lt
 clear qY nQ dP pz H6
 unfold maxLen at nT
 simp only
 go_wp2
 go_loopw [32] (fun i wr => ∃ j : Nat, j ≤ 64 ∧ i = .int .i64 j ∧ ch (YI.take j) = true ∧ w2 = wr) (fun i _ => 64 - (intOf i).toNat)
 case atStart => exact ⟨0, oM, rfl, by simp [ch], rfl⟩
 case round =>
  obtain ⟨j, hj, rfl, cB, rfl⟩ := hrel
  have uJ := iD cB
  clear cB
  by_cases aY : j < 64
  ·obtain ⟨z, hz⟩ := getElem?_of_lt (l := YI) (k := j) (by rw [lV]; exact aY)
   obtain ⟨bb, oo, rfl, _, d0⟩ := XL.rd.mq hz
   by_cases he : z = 255
   ·have T3 := iD (lJ hz uJ he)
    have he' : (z != 255) = false := by simp [he]
    clear hz he
    go_wp2
    go_roundw
    case rel => exact ⟨j + 1, oM, by go_num, T3, by first | rfl | trivial⟩
    case measure => simp [intOf]; omega
   have Bj := iD (oU hz he)
   have he' : (z != 255) = true := by simpa using he
   have hq := HR.out
   rw [iP Bj.out] at hq
   subst hq
   clear hz he
   (try simp only)
   obtain ⟨a0, a1, a2, a3, a4, a5, a6⟩ := DR.out
   obtain ⟨b0, b1, b2, b3, b4, b5, b6⟩ := Bp.out
   have e0 := b6 0
   have e1 := b6 1
   have e2 := b6 2
   have e3 := b6 3
   have e4 := b6 4
   have e5 := b6 5
   clear a6 b6
   go_wp2
   (try simp only [Exit.inBlock, Exit.then])
   refine bodyPost_ret (v := .tuple #[(Rc.mk A c B d P r).v g, .int .i64 12]) ?_ rfl ⟨⟨A, c, B, d, P, r⟩, rfl, ca.cU (X := X2 X w.heap.size) ?_ (fun _ => .inl), ?_⟩
   ·rw [results_cell_tmp rfl]
    simp only [Rc.v]
    go_simp
   ·(repeat (refine ca.setCell ?_ _ _ (by first | exact fj _ _ | exact jk _ _)))
    exact H.two.below gh
   (repeat (refine Below.setCell ?_ (by simp only; omega) _))
   exact gh
  have Ct : j = 64 := oM
  subst Ct
  have Bj : Hid (ch YI = true) := by
   have h1 := uJ.out
   rw [List.take_of_length_le (by rw [lV]; exact Nat.le_refl _)] at h1
   exact h1
  have hq := HR.out
  rw [iN (by simp [Bj.out])] at hq
  have Jy := iD hq
  have yg := iD (C0 (H.below gh))
  rw [Ra] at yg
  have G5 := iD (H.below gh).cut
  have lU := iD (dY g)
  obtain ⟨a0, a1, a2, a3, a4, a5, _⟩ := DR.out
  clear hq aY uJ
  go_wp2_with (fail)
  clear a0 a1 a2 a3 a4 a5
  refine yg.mono ?_
  rintro e w3 ⟨rfl, gV⟩
  have jI : Hid (bW w w3) := gh.trans (gV.mono gh.size)
  have DQ := iD (DR.out.below gV oM)
  have M7 := iD (Bp.below gV oM)
  have ye : Hid (ca (X2 X w.heap.size) w3 ⟨A, c, B, d, P, r⟩ (dy g).1) := H.cut.two.below jI
  clear gV DR Bp yg G5 XL
  obtain ⟨g', du⟩ := ex (dy g).1
  obtain ⟨kJ, gU⟩ := ex (dy g).2
  rw [du, gU] at Jy
  rw [du] at ye lU
  rw [du, gU]
  have HHG := iD du
  clear du gU
  obtain ⟨NI, wh⟩ := ex g.img.length
  have nv := iD wh
  clear wh
  obtain ⟨W3, mC⟩ := ex (pX w3 w.heap.size (.slice A g.img.length c) (.int .i64 g.pg) (.slice B g.ar.length d) (.bool g'.aF) (.int .i64 g'.be) (.slice P g.az.length r))
  have uv : W3.heap.size = w3.heap.size := by rw [← mC]; exact yz _ _ _ _ _ _ _ _
  have gg : Hid (bW w W3) := by rw [← mC]; exact qy jI cV _ _ _ _ _ _
  have P4 : Hid (ca (X2 X w.heap.size) W3 ⟨A, c, B, d, P, r⟩ g') := by rw [← mC]; exact ye.pX (fj _ _) _ _ _ _ _ _
  have FP : Hid (iM W3 w.heap.size (.slice A g.img.length c) (.int .i64 g.pg) (.slice B g.ar.length d) (.bool g'.aF) (.int .i64 g'.be) (.slice P g.az.length r)) := by rw [← mC]; exact DQ.put _ _ _ _ _ _
  have Qa : Hid (iM W3 (w.heap.size + 1) (.slice none 0 0) (.int .i64 0) (.slice none 0 0) (.bool false) (.int .i64 0) (.slice none 0 0)) := by rw [← mC]; exact M7.LU oM _ _ _ _ _ _
  have SL : w.heap.size + 1 < W3.heap.size := Qa.lt
  unfold pX at mC
  obtain ⟨a0, a1, a2, a3, a4, a5, a6⟩ := DQ.out
  have f0 := a6 0
  have f1 := a6 1
  have f2 := a6 2
  have f3 := a6 3
  have f4 := a6 4
  have f5 := a6 5
  clear a6
  go_upto_region 13 with (fail)
  try rw [mC]
  clear mC a0 a1 a2 a3 a4 a5 f0 f1 f2 f3 f4 f5 DQ M7 ye uv jI
  rw [nv] at FP
  have c0b : (W3.alloc (.cells #[] 5)).cell? ⟨w.heap.size, 0, none⟩ = some (.slice A NI c) := (((Below.refl W3.heap.size W3).alloc cV _).cell (p := ⟨w.heap.size, 0, none⟩) (by simp only; omega)).trans FP.1
  have qn := uF.out
  rw [nv] at qn
  have zk : Hid ((ag .u8 g.img).length = NI * 1) := by rw [Hid, aD, nv, Nat.mul_one]
  obtain ⟨i5, rS, jd, jc, jb⟩ := info_parts kz
  have nR : 0 ≤ maxLen := Nat.zero_le _
  have OC := PQ.out
  rw [nv] at OC
  go_wp2_with (first | (at_builtin; refine aN _ rfl _ _ 32 rfl W3.heap.size 5 i5 (.int .u8 0) 1 1 underlying32 rS jd jc jb rfl oM _ 0 [] rfl (World.ownsRow_lit W3 #[] 0 cV nR rfl) w.heap.size _ NI _ (ag .u8 g.img) rfl (H.a.rd.below (gg.alloc gg.size _) cV) zk (cZ _ _) (by unfold maxLen; omega) oM (by simp) ?_))
  intro v' w4 bY hgrow kg
  have xG : Hid (bW W3 w4) := ((Below.refl W3.heap.size W3).alloc cV _).grown hgrow (by simp) (fun k hk => by have hk' : some W3.heap.size = some k := hk; injection hk'; omega)
  try simp only [Nat.zero_add, List.nil_append] at bY
  obtain ⟨A4, c4, rfl, Wu, SS, Wg⟩ := a9 bY
  obtain ⟨gb, rfl, We, ab8⟩ := Wg oM
  have HO := iD bY
  obtain ⟨b', dO⟩ := ex (if kJ = true then eK b g.az else b)
  have cB : b'.length = 64 := by rw [← dO]; split; rw [db, HM]; exact HM
  have HB' := iD dO
  have HBL' := iD cB
  clear bY hgrow kg c0b Wg dO cB
  unfold maxLen at SS
  go_wp2
  go_loopw [51] (fun i wr => ∃ j : Nat, j ≤ 64 ∧ i = .int .i64 j ∧ wr.ownsRow W3.heap.size 5 1 (.slice (some ⟨gb, 0, none⟩) NI c4) NI (ag .u8 (lay g.img (64 * p) (b'.take j))) ∧ bW W3 wr) (fun i _ => 64 - (intOf i).toNat)
  case atStart => exact ⟨0, oM, rfl, by rw [List.take_zero, lD]; exact HO, xG⟩
  case round =>
   obtain ⟨j, hj, rfl, ho, hb⟩ := hrel
   have xc := iD ho
   have xF := iD hb
   have ZF : Hid (bW w wr) := gg.trans (xF.mono gg.size)
   clear ho hb
   by_cases aY : j < 64
   ·obtain ⟨z, hz⟩ := getElem?_of_lt (l := b) (k := j) (by rw [HM]; exact aY)
    obtain ⟨bb, oo, rfl, JS, d0⟩ := (HQ.below ZF cV).mq hz
    obtain ⟨y, hy⟩ := getElem?_of_lt (l := b') (k := j) (by rw [HBL']; exact aY)
    have ib : (lay g.img (64 * p) (b'.take j)).length = NI := by rw [cK _ _ _ (by rw [List.length_take, HBL', nv]; omega), nv]
    obtain ⟨u, hu⟩ := getElem?_of_lt (l := lay g.img (64 * p) (b'.take j)) (k := 64 * p + j) (by rw [ib]; omega)
    have k1 : (0 : Int) ≤ 64 * (p : Int) + (j : Int) := oM
    have k2 : 64 * (p : Int) + (j : Int) < (NI : Int) := oM
    have k3 : (64 * (p : Int) + (j : Int)).toNat = 64 * p + j := oM
    have eX : Hid ((lay g.img (64 * p) (b'.take j)).set (64 * p + j) y = lay g.img (64 * p) (b'.take (j + 1))) := jz (by rw [HBL', nv]; exact OC) hy
    cases gU : kJ with
    | false =>
     have Sa : z = y := by
      have h1 := HB'.out
      rw [gU, iN (by simp)] at h1
      rw [← h1, hz] at hy
      exact Option.some.inj hy
     subst Sa
     have e0 := qQ ib xc hu
     have e1 : wr.frozen? ⟨gb, 64 * p + j, none⟩ = false := xc.frozenAt _
     have n1 := iu xc (64 * p + j) z
     rw [eX] at n1
     have yb := iD n1
     have uE : Hid (bW W3 _) := xF.setCell (p := ⟨gb, 64 * p + j, none⟩) We (.int .u8 z)
     clear hz hy hu n1 ib
     go_wp2
     go_roundw
     case rel => exact ⟨j + 1, oM, by go_num, yb, uE⟩
     case measure => simp [intOf]; omega
    | true =>
     have TC : Hid (bits .or .u8 z (dm g.az j) = y) := by
      have h1 := HB'.out
      rw [gU, iP rfl] at h1
      rw [← h1, eJ, hz] at hy
      show _ = _
      simpa [nB] using hy
     have xb := iD (yA (P4.below xF) j oM)
     simp only [lU.out.2.2.2] at xb
     rw [Rc.v, lU.1, lU.2.1, lU.2.2.1, lU.2.2.2, nv] at xb
     obtain ⟨a0, a1, a2, a3, a4, a5, _⟩ := FP.below xF oM
     clear hz hy
     go_wp2_with (fail)
     clear a0 a1 a2 a3 a4 a5
     refine xb.mono ?_
     rintro e w5 ⟨rfl, gC⟩
     have Sa := TC.out
     have kd := aC xc gC
     have e0 := qQ ib kd hu
     have e1 : w5.frozen? ⟨gb, 64 * p + j, none⟩ = false := kd.frozenAt _
     have n1 := iu kd (64 * p + j) y
     rw [eX] at n1
     have yb := iD n1
     have uE : Hid (bW W3 _) := (xF.trans (gC.mono xF.size)).setCell (p := ⟨gb, 64 * p + j, none⟩) We (.int .u8 y)
     generalize dm g.az j = pk at *
     clear hu n1 ib gC kd d0
     go_wp2
     go_roundw
     case rel => exact ⟨j + 1, oM, by go_num, yb, uE⟩
     case measure => simp [intOf]; omega
   have Ct : j = 64 := oM
   subst Ct
   have eO := xc.out
   rw [List.take_of_length_le (by rw [HBL']; exact Nat.le_refl _), ← HB'] at eO
   have hq := Jy.out
   cases gU : kJ with
   | false =>
    rw [gU, iN (by simp)] at eO hq
    subst hq
    have oA := iD eO
    have ib : (lay g.img (64 * p) b).length = NI := by rw [cK _ _ _ (by rw [HM, nv]; exact OC), nv]
    have yc := iD ib
    have uy := P4.below xF
    have AJ : Hid (ca (X2 X w.heap.size) wr ⟨some ⟨gb, 0, none⟩, c4, B, d, P, r⟩ { g' with img := (lay g.img (64 * p) b) }) := ⟨MO, cn.new (tw HX SL) cV (by rw [aD]; exact ib) eO, by simp only [ib]; exact Wu, SS, uy.b, uy.b1, uy.b2, uy.p, uy.p1, uy.p2⟩
    obtain ⟨a0, a1, a2, a3, a4, a5, a6⟩ := FP.below xF oM
    obtain ⟨b0, b1, b2, b3, b4, b5, b6⟩ := Qa.below xF oM
    have f0 := a6 0
    have e0 := b6 0
    have e1 := b6 1
    have e2 := b6 2
    have e3 := b6 3
    have e4 := b6 4
    have e5 := b6 5
    clear a6 b6 eO ib uy
    go_wp2
    (try simp only [Exit.inBlock, Exit.then])
    refine bodyPost_ret (v := .tuple #[.agg #[.slice (some ⟨gb, 0, none⟩) NI c4, .int .i64 g.pg, .slice B g.ar.length d, .bool g'.aF, .int .i64 g'.be, .slice P g.az.length r], .int .i64 0]) ?_ rfl ⟨⟨some ⟨gb, 0, none⟩, c4, B, d, P, r⟩, by simp only [Rc.v, lU.out.1, lU.out.2.2.1, lU.out.2.2.2, yc.out], ca.cU (X := X2 X w.heap.size) ?_ (fun _ => .inl), ?_⟩
    ·rw [results_cell_tmp rfl]
     go_simp
    ·(repeat (refine ca.setCell ?_ _ _ (by first | exact fj _ _ | exact jk _ _)))
     exact AJ
    (repeat (refine Below.setCell ?_ (by simp only; omega) _))
    exact ZF
   | true =>
    rw [gU, iP rfl] at eO hq
    subst hq
    have oA := iD eO
    have ib : (lay g.img (64 * p) (eK b g.az)).length = NI := by rw [cK _ _ _ (by rw [db, HM, nv]; exact OC), nv]
    have yc := iD ib
    have uy := P4.below xF
    have AJ : Hid (ca (X2 X w.heap.size) wr ⟨some ⟨gb, 0, none⟩, c4, B, d, P, r⟩ { g' with img := (lay g.img (64 * p) (eK b g.az)) }) := ⟨MO, cn.new (tw HX SL) cV (by rw [aD]; exact ib) eO, by simp only [ib]; exact Wu, SS, uy.b, uy.b1, uy.b2, uy.p, uy.p1, uy.p2⟩
    obtain ⟨a0, a1, a2, a3, a4, a5, a6⟩ := FP.below xF oM
    obtain ⟨b0, b1, b2, b3, b4, b5, b6⟩ := Qa.below xF oM
    have f0 := a6 0
    have e0 := b6 0
    have e1 := b6 1
    have e2 := b6 2
    have e3 := b6 3
    have e4 := b6 4
    have e5 := b6 5
    clear a6 b6 eO ib uy
    go_wp2
    (try simp only [Exit.inBlock, Exit.then])
    refine bodyPost_ret (v := .tuple #[.agg #[.slice (some ⟨gb, 0, none⟩) NI c4, .int .i64 g.pg, .slice B g.ar.length d, .bool g'.aF, .int .i64 g'.be, .slice P g.az.length r], .int .i64 20]) ?_ rfl ⟨⟨some ⟨gb, 0, none⟩, c4, B, d, P, r⟩, by simp only [Rc.v, lU.out.1, lU.out.2.2.1, lU.out.2.2.2, yc.out], ca.cU (X := X2 X w.heap.size) ?_ (fun _ => .inl), ?_⟩
    ·rw [results_cell_tmp rfl]
     go_simp
    ·(repeat (refine ca.setCell ?_ _ _ (by first | exact fj _ _ | exact jk _ _)))
     exact AJ
    (repeat (refine Below.setCell ?_ (by simp only; omega) _))
    exact ZF
end Go.Proofs.YtjdknddnanopaaaGreat
