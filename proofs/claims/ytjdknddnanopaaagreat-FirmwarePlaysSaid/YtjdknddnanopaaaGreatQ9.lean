/-
  Part 9 of the proof.
-/
import Derived.Test.YtjdknddnanopaaaGreatQ8
namespace Go.Proofs.YtjdknddnanopaaaGreat
open Go.RowKit Tryz
set_option maxRecDepth 100000
set_option maxHeartbeats 16000000
set_option linter.all false
variable {w w' : World} {g : Fl} {X : Nat → Prop} {B C N bl fi k t : Nat} {a b c d e f : Value} {s s' : St} {sp : List eB} {x : Rc} {xs : List Value}
theorem dU.UB {f : Fl} (h : dU f s) : ga s f = s := by
 unfold ga
 rw [h.br, h.up]
 have := h.br
 cases s
 simp_all
theorem ik (s : St) (f : Fl) : (bj s f).first = s.first ∧ (bj s f).aa = s.aa ∧ (bj s f).ax = s.ax ∧ (bj s f).an = s.an ∧ (bj s f).aj = s.aj ∧ (bj s f).seq = s.seq ∧ (bj s f).block = s.block ∧ (bj s f).av = s.av ∧ (bj s f).af = s.af := by
 unfold bj
 split <;> exact ⟨rfl, rfl, rfl, rfl, rfl, rfl, rfl, rfl, rfl⟩
theorem BV {f : Fl} (h1 : s'.first = s.first) (h2 : s'.ax = s.ax) (b j : Nat) : aG s' f b j = aG s f b j := by
 unfold aG St.k
 rw [h1, h2]
theorem dU.set {f : Fl} (h : dU f s) {i v : Int} (hv : dH v) : dU f (aV s i v) := by
 have dc := eH (f := f) h.ok (i := i) hv
 unfold aV at dc ⊢
 split at dc
 ·rename_i he
  rw [iP he]
  have ny : ∃ p, s.ax[i.toNat]? = some p ∧ iy p v = true := by
   unfold gf at he
   split at he
   ·cases he
   split at he
   ·cases he
   split at he
   ·cases he
   rename_i a b c
   obtain ⟨p, hp⟩ := getElem?_of_lt (l := s.ax) (k := i.toNat) oM
   rw [hp] at c
   exact ⟨p, hp, by simpa using c⟩
  obtain ⟨p, hp, hx⟩ := ny
  exact ⟨h.wv, dc, h.up, h.br, h.Bu, h.new.congr rfl rfl rfl (fun b j _ _ => dD rfl rfl rfl (fun _ _ => rfl)), h.q0, h.xq, h.uT.set hp hx, fun hb => ⟨(h.Bv hb).cO, (h.Bv hb).vl, (h.Bv hb).lg, (h.Bv hb).ne, (h.Bv hb).nx, (h.Bv hb).er, (h.Bv hb).pre⟩⟩
 rename_i he
 rw [iN he]
 exact h
theorem dU.begin {f : Fl} (h : dU f s) : dU f (aZ s f) := by
 have dc := mx (f := f) h.ok
 unfold aZ at dc ⊢
 rw [h.UB] at dc ⊢
 split at dc
 ·rename_i he
  rw [iP he]
  obtain ⟨_, _, abF, fR, mX⟩ := jE he
  obtain ⟨p1, p2, p3, p4, p5, p6, p7, p8, p9⟩ := ik s f
  have Lt : eY f { bj s f with bZ := dS (s.seq + 1) s.aj, values := s.aj, done := 0, bt := true } (fZ s) :=
   h.new.congr p2 p3 rfl (fun b j _ _ => dD p1 p3 rfl (fun _ _ => rfl))
  have qh : fZ { bj s f with bZ := dS (s.seq + 1) s.aj, values := s.aj, done := 0, bt := true } = fZ s := by
   unfold fZ
   simp only [p8, p6, p7, p4]
  refine ⟨h.wv, dc, h.up, by simp only [p9]; exact h.br, by simp only [p1, p2]; exact h.Bu, by rw [qh]; exact Lt, by simp only [p8, p6, p7, p3, p4]; exact h.q0, by simp only [p3, p4]; exact h.xq, by simp only [p3, p5]; exact h.uT, fun _ => ?_⟩
  have hk : ∀ x : St, x.ax = s.ax → x.k = s.k := fun x e => by unfold St.k; rw [e]
  refine ⟨by simp only [p6], by simp only [p3]; exact h.ok.tl, by simp only [p3]; exact h.uT, ?_, ?_, ?_, ?_⟩
  ·show (bj s f).bH = (bj s f).block → (bj s f).av < ((bj s f).bg : Int)
   rw [p7, p8]
   unfold bj
   split
   ·rename_i j hj
    exact fun _ => (wu hj).2.1
   intro e
   simp only at e
   have := h.ok.bl
   have := h.ok.b1
   exfalso
   by_cases hl : s.block + 1 < s.aa
   ·rw [Nat.mod_eq_of_lt hl] at e; omega
   rw [show s.block + 1 = s.aa by omega, Nat.mod_self] at e; omega
  ·show (bj s f).bH = (bj s f).block ∨ (bj s f).bH = ((bj s f).block + 1) % (bj s f).aa
   rw [p7, p2]
   unfold bj
   split
   ·exact .inl rfl
   exact .inr rfl
  ·show (bj s f).erase = true → (bj s f).bH ≠ (bj s f).block ∧ (bj s f).bg = 0 ∧ (0 : Nat) = 0
   rw [p7]
   unfold bj
   split
   ·intro e; cases e
   intro _
   refine ⟨fun e => ?_, rfl, rfl⟩
   simp only at e
   have := h.ok.bl
   have := h.ok.b1
   by_cases hl : s.block + 1 < s.aa
   ·rw [Nat.mod_eq_of_lt hl] at e; omega
   rw [show s.block + 1 = s.aa by omega, Nat.mod_self] at e; omega
  intro he i hi
  rw [iN (by simp)]
  have Co : i < s.k := Nat.lt_of_lt_of_eq hi (hk { bj s f with bZ := dS (s.seq + 1) s.aj, values := s.aj, done := 0, bt := true } p3)
  have iA : aG { bj s f with bZ := dS (s.seq + 1) s.aj, values := s.aj, done := 0, bt := true } f (bj s f).bH (bj s f).bg = aG s f (bj s f).bH (bj s f).bg := BV p1 p3 _ _
  show aB f (aG { bj s f with bZ := dS (s.seq + 1) s.aj, values := s.aj, done := 0, bt := true } f (bj s f).bH (bj s f).bg + i) = cM
  rw [iA]
  have he' : (bj s f).erase = false := he
  unfold bj at he' ⊢
  split
  ·rename_i j hj
   obtain ⟨a1, a2, a3⟩ := wu hj
   exact (wU h.wv (h.ok.oD h.ok.bl a1)).1 a3 i Co
  rename_i hn
  rw [hn] at he'
  simp only [Bool.not_eq_false'] at he'
  have hb : (s.block + 1) % s.aa < s.aa := Nat.mod_lt _ (by have := h.ok.b1; omega)
  have := h.ok.kp
  exact (wU h.wv (h.ok.wT hb)).1 he' i oM
 rename_i he
 rw [iN he]
 exact h
theorem OJ {f : Fl} {b j : Nat} (hf : s'.first = s.first) (hs : s'.ax = s.ax) (hp : g.pg = f.pg) 
 (h : ∀ i, i < s.k → du (aB g (aG s f b j + i)) = true → aB g (aG s f b j + i) = aB f (aG s f b j + i)) : eU g s' b j = eU f s b j ∨ eU g s' b j = none := by
 by_cases gG : ∀ i, i < s.k → du (aB g (aG s f b j + i)) = true
 ·exact .inl (dD hf hs hp (fun i hi => h i hi (gG i hi)))
 right
 simp only [Classical.not_forall] at gG
 obtain ⟨i, hi, hb⟩ := gG
 have hk : s'.k = s.k := by unfold St.k; rw [hs]
 have ha : aG s' g b j = aG s f b j := by unfold aG; rw [hk, hf, hp]
 exact kv (i := i) (by rw [hk]; exact hi) (by rw [ha]; simpa using hb)
inductive zd (f : Fl) (s : St) (q : St × Fl × Bool × Int) : Prop
 | more : q.2.2.1 = false → q.2.2.2 = 0 → dU q.2.1 q.1 → q.1.bt = true → q.1.an = s.an → q.1.values = s.values → q.1.aj = s.aj → q.1.ax = s.ax → q.1.first = s.first → q.1.aa = s.aa → q.1.block = s.block → q.1.av = s.av → q.1.bH = s.bH → zd f s q
 | last : q.2.2.1 = true → q.2.2.2 = 0 → dU q.2.1 q.1 → q.1.bt = false → q.1.an = s.values → q.1.aj = s.aj → q.1.ax = s.ax → q.1.first = s.first → q.1.aa = s.aa → q.1.block = s.bH → 0 ≤ q.1.av → zd f s q
 | dead : q.2.2.1 = false → q.2.2.2 = 20 → xm q.2.1 q.1 → q.1.an = s.an → q.1.values = s.values → q.1.ax = s.ax → q.1.first = s.first → q.1.aa = s.aa → q.1.block = s.block → q.1.av = s.av → q.1.bH = s.bH → zd f s q
theorem dU.pL {f : Fl} (h : dU f s) (hb : s.bt = true) (he : s.erase = true) : zd f s (aI s f) := by
 have t := h.Bv hb
 obtain ⟨er1, Ag, er3⟩ := t.er he
 have dc := mc (f := f) h.ok
 have hB : s.first + s.bH < f.aq.length := by have := h.ok.fb; have := h.ok.tb; omega
 have oG : eV s f = aT f ((s.first + s.bH : Nat) : Int) := by
  unfold eV
  rw [iP he]
  congr 1
 obtain ⟨e1, e2, e3⟩ := nY h.wv h.up hB
 have Cp := kr (f := f) (block := ((s.first + s.bH : Nat) : Int)) h.wv
 rw [← oG] at e1 e2 e3 Cp
 have Gk : ct s = { s with erase := false } := by unfold ct; rw [iP he]
 have xv := h.ok.k1
 have hcd : fZ { s with erase := false } = fZ s := rfl
 rcases e3 with ⟨c1, c2, c3⟩ | ⟨c1, c2, c3⟩
 ·have hq := mK (f := f) h.br hb c1 (by rw [Gk]; simp only; rw [er3, h.ok.pl hb]; exact xv)
  rw [hq] at dc ⊢
  rw [Gk] at dc ⊢
  have zR : ∀ x, s.first * (eV s f).1.pg ≤ x → x < (s.first + s.aa) * (eV s f).1.pg → rC (aB (eV s f).1 x) := by
   intro x h1 h2
   rw [e1] at h1 h2
   rw [c3]
   split
   ·exact rC.blank
   exact h.Bu x h1 h2
  have lj : ∀ b j, b < s.aa → j < bm s f → eU (eV s f).1 { s with erase := false } b j = eU f s b j ∨ (eU (eV s f).1 { s with erase := false } b j = none ∧ ∀ q v, fZ s ≠ some (q, b, j, v)) := by
   intro b j h1 h2
   by_cases nl : b = s.bH
   ·subst nl
    right
    refine ⟨?_, h.EZ (.inl (fun e => er1 e.symm))⟩
    have ha : aG { s with erase := false } (eV s f).1 s.bH j = aG s f s.bH j := by unfold aG St.k; rw [e1]
    refine kv (i := 0) xv ?_
    rw [ha, c3, iP ((h.ok.mM (B := s.first + s.bH) h2 xv).2 rfl)]
    exact kV
   left
   refine dD rfl rfl e1 (fun i hi => ?_)
   rw [c3, iN (fun hx => nl (by
    have := (h.ok.mM h2 hi).1 hx
    omega))]
  refine .more rfl rfl ⟨Cp, dc, c2, h.br, zR, ?_, h.q0, h.xq, h.uT, fun _ => ?_⟩ hb rfl rfl rfl rfl rfl rfl rfl rfl rfl
  ·rw [hcd]
   exact h.new.less rfl rfl e1 lj
  refine ⟨t.cO, t.vl, t.lg, t.ne, t.nx, (fun e => by cases e), fun _ i hi => ?_⟩
  have ha : aG { s with erase := false } (eV s f).1 s.bH s.bg = aG s f s.bH s.bg := by unfold aG St.k; rw [e1]
  simp only
  rw [ha, iN oM, c3, iP ((h.ok.mM (B := s.first + s.bH) h.ok.ts hi).2 rfl)]
 have hq := mL (f := f) (k := 0) h.br hb (by rw [c1]; decide)
 rw [hq] at dc ⊢
 rw [Gk] at dc ⊢
 have zR : ∀ x, s.first * (eV s f).1.pg ≤ x → x < (s.first + s.aa) * (eV s f).1.pg → rC (aB (eV s f).1 x) := by
  intro x h1 h2
  rw [e1] at h1 h2
  rw [c3]
  split
  ·exact (h.Bu x h1 h2).eK (eh h.wv.yz _)
  exact h.Bu x h1 h2
 have lj : ∀ b j, b < s.aa → j < bm s f → eU (eV s f).1 { { s with erase := false } with af := true } b j = eU f s b j ∨ (eU (eV s f).1 { { s with erase := false } with af := true } b j = none ∧ ∀ q v, fZ s ≠ some (q, b, j, v)) := by
  intro b j h1 h2
  by_cases nl : b = s.bH
  ·subst nl
   have aaw := OJ (f := f) (g := (eV s f).1) (s := s) (s' := { { s with erase := false } with af := true }) (b := s.bH) (j := j) rfl rfl e1 (fun i hi hg => by
    rw [c3] at hg ⊢
    split
    ·rename_i ny
     rw [iP ny] at hg
     have hr := h.ok.sL h.ok.tb h2 hi
     exact (h.Bu _ hr.1 hr.2).fix (eh h.wv.yz _) hg
    rfl)
   rcases aaw with e | e
   ·exact .inl e
   exact .inr ⟨e, h.EZ (.inl (fun e => er1 e.symm))⟩
  left
  refine dD rfl rfl e1 (fun i hi => ?_)
  rw [c3, iN (fun hx => nl (by
   have := (h.ok.mM h2 hi).1 hx
   omega))]
 refine .dead rfl rfl ⟨Cp, dc, c2, rfl, hb, zR, .inl ?_, h.xq, t.lg, fun e => (h.q0 e).2⟩ rfl rfl rfl rfl rfl rfl rfl rfl
 exact h.new.less rfl rfl e1 lj
theorem dU.sr {f : Fl} (h : dU f s) (hb : s.bt = true) (he : s.erase = false) : zd f s (aI s f) := by
 have t := h.Bv hb
 have dc := mc (f := f) h.ok
 have qc := h.ok.dn hb h.br
 have fQ := h.ok.pl hb
 have ny := h.ok.oD h.ok.tb h.ok.ts
 have Lj : cO s.values.length = s.k := by unfold St.k; rw [t.vl]
 have YM : s.bZ[s.done]?.getD [] = eL (s.seq + 1) s.values s.done := by
  rw [t.cO, Aj oM]
  rfl
 have oG : eV s f = bz f ((aG s f s.bH s.bg + s.done : Nat) : Int) (eL (s.seq + 1) s.values s.done) := by
  unfold eV
  rw [iN (by rw [he]; decide), YM]
 obtain ⟨P, hP⟩ := ex (aG s f s.bH s.bg)
 rw [hP] at oG ny
 have cB : aB f (P + s.done) = cM := by
  have := t.pre he s.done qc
  rw [iN oM, hP] at this
  exact this
 have KZ := h.ok.n2
 have uc : Bytes (eL (s.seq + 1) s.values s.done) := lC _ _ _ (by have := h.ok.k8; omega) (by rw [t.vl]; omega)
 obtain ⟨e1, e2, e3⟩ := pR h.wv h.up (P := P + s.done) oM (dO (s.seq + 1) s.values s.done) cB
 have Cp := nK (f := f) (page := ((P + s.done : Nat) : Int)) h.wv uc
 rw [← oG] at e1 e2 e3 Cp
 have Gk : ct s = { s with done := s.done + 1 } := by unfold ct; rw [iN (by rw [he]; decide)]
 have xv := h.ok.k1
 have Oo := sV (s.seq + 1) s.values s.done
 have On := dO (s.seq + 1) s.values s.done
 have Gx : ∀ (s' : St) (b j : Nat), s'.first = s.first → s'.ax = s.ax → b < s.aa → j < bm s f → ¬ (b = s.bH ∧ j = s.bg) → (∀ x, x ≠ P + s.done → aB (eV s f).1 x = aB f x) → eU (eV s f).1 s' b j = eU f s b j := by
  intro s' b j h1 h2 h3 h4 h5 h6
  refine dD h1 h2 e1 (fun i hi => h6 _ (fun e => h5 ?_))
  rw [← hP] at e
  have := h.ok.Ku h4 h.ok.ts hi qc e
  exact ⟨this.1, this.2.1⟩
 have VB : ∀ q v, fZ s ≠ some (q, s.bH, s.bg, v) := by
  apply h.EZ
  by_cases e : s.block = s.bH
  ·exact .inr (t.ne e.symm)
  exact .inl e
 have Nd : ∀ (s' : St), s'.first = s.first → s'.ax = s.ax → aG s' (eV s f).1 s.bH s.bg = P := by
  intro s' h1 h2
  rw [← hP]
  unfold aG St.k
  rw [h1, h2, e1]
 have zR : ∀ (p : List Int), rC p → (∀ x, aB (eV s f).1 x = if x = P + s.done then p else aB f x) → ∀ x, s.first * (eV s f).1.pg ≤ x → x < (s.first + s.aa) * (eV s f).1.pg → rC (aB (eV s f).1 x) := by
  intro p hp hx x h1 h2
  rw [e1] at h1 h2
  rw [hx]
  split
  ·exact hp
  exact h.Bu x h1 h2
 have Iq := t.pre he
 rw [hP] at Iq
 rcases e3 with ⟨c1, c2, c3⟩ | ⟨c1, c2, c3⟩
 ·have c3' : ∀ x, x ≠ P + s.done → aB (eV s f).1 x = aB f x := fun x hx => by rw [c3, iN hx]
  by_cases aW : s.done + 1 < s.k
  ·have hq := mK (f := f) h.br hb c1 (by rw [Gk]; simp only; omega)
   rw [hq] at dc ⊢
   rw [Gk] at dc ⊢
   have lj : ∀ b j, b < s.aa → j < bm s f → eU (eV s f).1 { s with done := s.done + 1 } b j = eU f s b j ∨ (eU (eV s f).1 { s with done := s.done + 1 } b j = none ∧ ∀ q v, fZ s ≠ some (q, b, j, v)) := by
    intro b j h1 h2
    by_cases nl : b = s.bH ∧ j = s.bg
    ·obtain ⟨rfl, rfl⟩ := nl
     right
     refine ⟨kv (i := s.done + 1) aW ?_, VB⟩
     rw [Nd { s with done := s.done + 1 } rfl rfl, c3' _ oM, Iq _ aW, iN oM]
     exact kV
    exact .inl (Gx _ b j rfl rfl h1 h2 nl c3')
   refine .more rfl rfl ⟨Cp, dc, c2, h.br, zR _ (rC.SO Oo On uc) c3, h.new.less rfl rfl e1 lj, h.q0, h.xq, h.uT, fun _ => ?_⟩ hb rfl rfl rfl rfl rfl rfl rfl rfl rfl
   refine ⟨t.cO, t.vl, t.lg, t.ne, t.nx, (fun e => by simp only at e; rw [he] at e; cases e), fun _ i hi => ?_⟩
   simp only
   rw [Nd { s with done := s.done + 1 } rfl rfl, c3]
   by_cases hid : i = s.done
   ·subst hid
    rw [iP rfl, iP oM]
   rw [iN oM, Iq i hi]
   by_cases sR : i < s.done
   ·rw [iP sR, iP oM]
   rw [iN sR, iN oM]
  have hdk : s.done + 1 = s.k := oM
  have hq := vm (f := f) h.br hb c1 (by rw [Gk]; simp only; omega)
  rw [hq] at dc ⊢
  rw [Gk] at dc ⊢
  obtain ⟨s', jU⟩ := ex (kO { s with done := s.done + 1 })
  have hrt : eU (eV s f).1 s' s.bH s.bg = some (s.seq + 1, s.values) := by
   have hqb := h.ok.qb hb h.br
   have Dp := h.ok.q1
   refine BI (f := (eV s f).1) ?_ (by unfold fX; rw [iN]; rw [t.vl]; have := h.ok.n1; omega) (by rw [← jU]; exact t.vl) h.ok.vi
   have hk' : s'.k = s.k := by rw [← jU]; rfl
   rw [Nd s' (by rw [← jU]; rfl) (by rw [← jU]; rfl), hk']
   unfold bT dS
   rw [Lj]
   apply List.map_congr_left
   intro i hi
   rw [List.mem_range] at hi
   rw [c3]
   by_cases hid : i = s.done
   ·subst hid
    rw [iP rfl]
   rw [iN oM, Iq i hi, iP oM]
  have Lt : eY (eV s f).1 s' (some (s.seq + 1, s.bH, s.bg, s.values)) := by
   refine ⟨by rw [← jU]; exact h.ok.tb, ?_, hrt, fun b j q v h1 h2 h3 => ?_⟩
   ·have : bm s' (eV s f).1 = bm s f := by rw [← jU]; unfold bm St.k kO; rw [e1]
    rw [this]
    exact h.ok.ts
   by_cases nl : b = s.bH ∧ j = s.bg
   ·exact .inl nl
   right
   have JY : b < s.aa := by rw [← jU] at h1; exact h1
   have LH : j < bm s f := by
    have : bm s' (eV s f).1 = bm s f := by rw [← jU]; unfold bm St.k kO; rw [e1]
    rw [this] at h2
    exact h2
   rw [Gx s' b j (by rw [← jU]; rfl) (by rw [← jU]; rfl) JY LH nl c3'] at h3
   exact h.P6 JY LH h3
  rw [jU] at dc ⊢
  have qh : fZ s' = some (s.seq + 1, s.bH, s.bg, s.values) := by
   rw [← jU]
   unfold fZ kO
   simp only
   rw [iN oM, Int.toNat_natCast]
  refine .last rfl rfl ⟨Cp, dc, c2, by rw [← jU]; exact h.br, ?_, by rw [qh]; exact Lt, ?_, by rw [← jU]; exact t.lg, by rw [← jU]; exact h.uT, ?_⟩ ?_ ?_ ?_ ?_ ?_ ?_ ?_ ?_
  ·have := zR _ (rC.SO Oo On uc) c3
   rw [← jU]
   exact this
  ·intro e
   rw [← jU] at e
   unfold kO at e
   simp only at e
   omega
  ·intro e
   rw [← jU] at e
   cases e
  ·rw [← jU]; rfl
  ·rw [← jU]; rfl
  ·rw [← jU]; rfl
  ·rw [← jU]; rfl
  ·rw [← jU]; rfl
  ·rw [← jU]; rfl
  ·rw [← jU]; rfl
  rw [← jU]; unfold kO; simp only; omega
 have c3' : ∀ x, x ≠ P + s.done → aB (eV s f).1 x = aB f x := fun x hx => by rw [c3, iN hx]
 have hq := mL (f := f) (k := 0) h.br hb (by rw [c1]; decide)
 rw [hq] at dc ⊢
 rw [Gk] at dc ⊢
 have htr := zR _ ((rC.SO Oo On uc).eK h.wv.yz) c3
 obtain ⟨s', jU⟩ : ∃ s' : St, { { s with done := s.done + 1 } with af := true } = s' := ⟨_, rfl⟩
 have f1 : s'.first = s.first := by rw [← jU]
 have f2 : s'.ax = s.ax := by rw [← jU]
 have f3 : s'.aa = s.aa := by rw [← jU]
 have dV : bm s' (eV s f).1 = bm s f := by unfold bm St.k; rw [f2, e1]
 have hk' : s'.k = s.k := by unfold St.k; rw [f2]
 have Lt : eY (eV s f).1 s' (fZ s) ∨ eY (eV s f).1 s' (some (s.seq + 1, s.bH, s.bg, s.values)) := by
  by_cases hfull : eK (eL (s.seq + 1) s.values s.done) f.az = eL (s.seq + 1) s.values s.done ∧ s.done + 1 = s.k
  ·right
   obtain ⟨Cr, Nm⟩ := hfull
   refine ⟨by rw [f3]; exact h.ok.tb, by rw [dV]; exact h.ok.ts, ?_, fun b j q v h1 h2 h3 => ?_⟩
   ·have hqb := h.ok.qb hb h.br
    have Dp := h.ok.q1
    refine BI (f := (eV s f).1) ?_ (by unfold fX; rw [iN]; rw [t.vl]; have := h.ok.n1; omega) (by rw [f2]; exact t.vl) h.ok.vi
    rw [Nd s' f1 f2, hk']
    unfold bT dS
    rw [Lj]
    apply List.map_congr_left
    intro i hi
    rw [List.mem_range] at hi
    rw [c3]
    by_cases hid : i = s.done
    ·subst hid
     rw [iP rfl, Cr]
    rw [iN oM, Iq i hi, iP oM]
   by_cases nl : b = s.bH ∧ j = s.bg
   ·exact .inl nl
   right
   rw [f3] at h1
   rw [dV] at h2
   rw [Gx s' b j f1 f2 h1 h2 nl c3'] at h3
   exact h.P6 h1 h2 h3
  left
  refine h.new.less f3 f2 e1 (fun b j h1 h2 => ?_)
  by_cases nl : b = s.bH ∧ j = s.bg
  ·obtain ⟨rfl, rfl⟩ := nl
   right
   refine ⟨?_, VB⟩
   by_cases aW : s.done + 1 < s.k
   ·refine kv (i := s.done + 1) (by rw [hk']; exact aW) ?_
    rw [Nd s' f1 f2, c3' _ oM, Iq _ aW, iN oM]
    exact kV
   refine kv (i := s.done) (by rw [hk']; exact qc) ?_
   rw [Nd s' f1 f2, c3, iP rfl, yk uc h.wv.yz On Oo]
   rw [decide_eq_false_iff_not]
   exact fun e => hfull ⟨e, oM⟩
  exact .inl (Gx s' b j f1 f2 h1 h2 nl c3')
 rw [jU] at dc ⊢
 have qh : fZ s' = fZ s := by rw [← jU]; rfl
 have Ql : some (s'.seq + 1, s'.bH, s'.bg, s'.values) = some (s.seq + 1, s.bH, s.bg, s.values) := by rw [← jU]
 refine .dead rfl rfl ⟨Cp, dc, c2, by rw [← jU], by rw [← jU]; exact hb, by rw [f1, f3]; exact htr, by rw [qh, Ql]; exact Lt.elim .inl (fun e => .inr ⟨e, by rw [← jU]; simp⟩), by rw [← jU]; exact h.xq, by rw [← jU]; exact t.lg, by rw [← jU]; exact fun e => (h.q0 e).2⟩ (by rw [← jU]) (by rw [← jU]) f2 f1 f3 (by rw [← jU]) (by rw [← jU]) (by rw [← jU])
theorem dU.step {f : Fl} (h : dU f s) (hb : s.bt = true) : zd f s (aI s f) := by
 by_cases he : s.erase = true
 ·exact h.pL hb he
 exact h.sr hb (by simpa using he)
theorem tU (h : sp.any fA = false) : Lg sp (sp.map eB.df) := by
 unfold Lg
 induction sp with
 | nil => rfl
 | cons p sp ih =>
  rw [List.any_cons, Bool.or_eq_false_iff] at h
  rw [List.map_cons]
  show ey p p.df :: ez sp (sp.map eB.df) = _
  rw [ih h.2]
  congr 1
  have h1 := h.1
  unfold fA at h1
  rw [decide_eq_false_iff_not] at h1
  unfold ey
  rw [iP (by unfold iy; rw [decide_eq_true_eq]; omega)]
structure MC (g : Fl) (s t : St) (cur : Option (Int × Nat × Nat × List Int)) : Prop where
 live : dU g t
 bt : t.bt = false
 ax : t.ax = s.ax
 first : t.first = s.first
 aa : t.aa = s.aa
 aj : t.aj = t.an
 rc : fZ t = cur
 no : cur = none → t.an = s.ax.map eB.df ∧ t.block = 0
theorem yF {f : Fl} {cur : Option (Int × Nat × Nat × List Int)} (hn : eY f s cur) (hs : bD f s) (hi : g.img = f.img) (hp : g.pg = f.pg) (hw : g.aq.length = f.aq.length) (dc : g.ok) (gM : g.aF = false) 
 (zR : ∀ x, s.first * f.pg ≤ x → x < (s.first + s.aa) * f.pg → rC (aB f x)) (fh : s.ax.any fA = false) (hl : ∀ q b j v, cur = some (q, b, j, v) → Lg s.ax v) :
 cJ g s.first s.aa s.ax = 0 ∧ MC g s (aJ g s.first s.aa s.ax) cur := by
 have he : cJ g s.first s.aa s.ax = 0 := by
  have h1 := hs.b1
  have h2 := hs.b2
  have h3 := hs.fb
  have h4 := hs.n1
  have h5 := hs.n2
  have h6 := hs.kp
  unfold cJ
  rw [gM, iN (by decide), iN oM, iN oM, iN oM, iN (by
   have : s.ax.any (fun p => decide (p.df < p.lo ∨ p.hi < p.df)) = false := fh
   rw [this]; decide), iN (by unfold St.k at h6; omega)]
 refine ⟨he, ?_⟩
 have nf : ∀ x, aB g x = aB f x := fun x => by unfold aB; rw [hi]
 obtain ⟨s0, fp⟩ := ex (dM s.first s.aa s.ax)
 have xu : eY g s0 cur := by
  rw [← fp]
  exact hn.congr rfl rfl hp (fun b j _ _ => dD rfl rfl hp (fun i _ => nf _))
 have h0 : s0.seq = 0 := by rw [← fp]; rfl
 have gG := kB h0 xu
 have hT : bm s0 g = g.pg / cO s.ax.length := by rw [← fp]; rfl
 have hB : s0.aa = s.aa := by rw [← fp]; rfl
 have hS : s0.ax = s.ax := by rw [← fp]; rfl
 rw [hT, hB] at gG
 have It := kz (f := g) hs.sp he
 have htrn' : ∀ x, s.first * g.pg ≤ x → x < (s.first + s.aa) * g.pg → rC (aB g x) := fun x h1 h2 => by
  rw [nf]
  rw [hp] at h1 h2
  exact zR x h1 h2
 unfold aJ at It ⊢
 rw [fp, gG] at It ⊢
 cases cur with
 | none =>
  simp only at It ⊢
  have e1 : s0.av = -1 := by rw [← fp]; rfl
  have e2 : s0.an = s.ax.map eB.df := by rw [← fp]; rfl
  have e3 : s0.block = 0 := by rw [← fp]; rfl
  have e4 : s0.bt = false := by rw [← fp]; rfl
  have e5 : s0.af = false := by rw [← fp]; rfl
  have e6 : s0.first = s.first := by rw [← fp]; rfl
  have qh : fZ { s0 with aj := s0.an } = none := by unfold fZ; rw [iP e1]
  refine ⟨⟨dc, It, gM, e5, by simp only [e6, hB]; exact htrn', ?_, ?_, ?_, ?_, ?_⟩, e4, hS, e6, hB, rfl, qh, fun _ => ⟨e2, e3⟩⟩
  ·rw [qh]
   exact xu.congr rfl rfl rfl (fun b j _ _ => dD rfl rfl rfl (fun _ _ => rfl))
  ·intro _
   exact ⟨h0, e3, by simp only [hS]; exact e2⟩
  ·simp only [hS, e2]; exact tU fh
  ·simp only [hS, e2]; exact tU fh
  intro e
  simp only [e4] at e
  cases e
 | some c =>
  obtain ⟨q, b, j, v⟩ := c
  have Gt := hl q b j v rfl
  unfold Lg at Gt
  simp only [hS, Gt] at It ⊢
  have e4 : s0.bt = false := by rw [← fp]; rfl
  have e5 : s0.af = false := by rw [← fp]; rfl
  have e6 : s0.first = s.first := by rw [← fp]; rfl
  obtain ⟨t, ht⟩ : ∃ t : St, ({ first := s0.first, aa := s0.aa, ax := s0.ax, an := v, aj := v, seq := q, block := b, av := (j : Int), af := s0.af, bZ := s0.bZ, values := s0.values, bH := s0.bH, bg := s0.bg, done := s0.done, erase := s0.erase, bt := s0.bt } : St) = t := ⟨_, rfl⟩
  have qh : fZ t = some (q, b, j, v) := by
   rw [← ht]
   unfold fZ
   simp only
   rw [iN oM, Int.toNat_natCast]
  have JM : t.aa = s0.aa := by rw [← ht]
  have Nb : t.ax = s0.ax := by rw [← ht]
  have ht3 : t.first = s0.first := by rw [← ht]
  have aai : bD g t := by rw [← ht, hS, hB]; exact It
  have res : MC g s t (some (q, b, j, v)) := by
   refine ⟨⟨dc, aai, gM, by rw [← ht]; exact e5, by rw [ht3, JM, e6, hB]; exact htrn', ?_, ?_, ?_, ?_, ?_⟩, by rw [← ht]; exact e4, Nb.trans hS, ht3.trans e6, JM.trans hB, by rw [← ht], qh, fun e => by cases e⟩
   ·rw [qh]
    exact xu.congr JM Nb rfl (fun b j _ _ => dD ht3 Nb rfl (fun _ _ => rfl))
   ·intro e
    rw [← ht] at e
    simp only at e
    omega
   ·rw [Nb, hS, ← ht]; exact Gt
   ·rw [Nb, hS, ← ht]; exact Gt
   intro e
   rw [← ht] at e
   simp only [e4] at e
   cases e
  rw [← ht, hS, hB] at res
  exact res
def uT (sp : List eB) (raw : List Int) (t : Nat) : List Int := (ez sp raw).take t ++ raw.drop t
theorem kC {raw : List Int} (h : raw.length = sp.length) : (ez sp raw).length = sp.length := by unfold ez; rw [List.length_zipWith]; omega
theorem Gi {raw : List Int} (h : raw.length = sp.length) (ht : t ≤ sp.length) : (uT sp raw t).length = sp.length := by
 unfold uT
 rw [List.length_append, List.length_take, kC h, List.length_drop]
 omega
theorem K0 (sp : List eB) (raw : List Int) : uT sp raw 0 = raw := by unfold uT; simp
theorem N7 {raw : List Int} (h : raw.length = sp.length) : uT sp raw sp.length = ez sp raw := by
 unfold uT
 rw [List.take_of_length_le (by rw [kC h]; exact Nat.le_refl _), List.drop_of_length_le oM, List.append_nil]
theorem RR {raw : List Int} (h : raw.length = sp.length) {x : Int} (hx : raw[t]? = some x) : (uT sp raw t)[t]? = some x := by
 have ht := (List.getElem?_eq_some_iff.1 hx).1
 unfold uT
 rw [List.getElem?_append_right (by rw [List.length_take, kC h]; omega), List.length_take, kC h, List.getElem?_drop]
 rw [show t + (t - min t sp.length) = t by omega]
 exact hx
theorem K3 {raw : List Int} (h : raw.length = sp.length) {x : Int} {p : eB} (hx : raw[t]? = some x) (hp : sp[t]? = some p) : uT sp raw (t + 1) = (uT sp raw t).set t (ey p x) := by
 have ht := (List.getElem?_eq_some_iff.1 hx).1
 have hl : (ez sp raw)[t]? = some (ey p x) := by
  unfold ez
  rw [List.getElem?_zipWith, hp, hx]
 unfold uT
 rw [bA _ t _ hl, gO raw t x hx, List.set_append_right _ _ (by rw [List.length_take]; omega), List.length_take, kC h, show t - min t sp.length = 0 by omega]
 simp
theorem zt {l : List Int} {x : Int} (h : l[t]? = some x) : l.set t x = l := by
 apply List.ext_getElem?
 intro i
 rw [List.getElem?_set]
 split
 ·rename_i e
  subst e
  rw [h]
  have := (List.getElem?_eq_some_iff.1 h).1
  rw [iP this]
 rfl
section
variable {w wr : World} {D4 D8 D n cq cs : Nat} {x : Rc} {g : Fl} {fi bl seq gh av : Int} {Q Qs : Option Addr} {sp : List eB} {raw : List Int}
theorem qu.PY {gs : Nat} (h : qu w wr D4 D8 D x g fi bl Q n cq sp (some ⟨gs, 0, none⟩) cs raw seq gh av) (t : Nat) (y : Int) : qu w (wr.setCell ⟨gs, t, none⟩ (.int .i64 y)) D4 D8 D x g fi bl Q n cq sp (some ⟨gs, 0, none⟩) cs (raw.set t y) seq gh av := by
 have dV := h.sv.stored t (.int .i64 y)
 have hg := (h.sv.lt _ rfl).1
 refine ⟨h.below.setCell (p := ⟨gs, t, none⟩) hg _, bN h.o4 dV.2 (fun g' dr e' => aL h.sv h.o4 (by decide) g' e' dr), bN h.o8 dV.2 (fun g' dr e' => aL h.sv h.o8 (by decide) g' e' dr), ?_, bN h.sp dV.2 (fun g' dr e' => aL h.sv h.sp (by decide) g' e' dr), ?_, h.ne⟩
 ·rw [List.length_set]
  exact bN h.o dV.2 (fun g' dr e' => aL h.sv h.o (by decide) g' e' dr)
 rw [List.length_set]
 have e : aw (raw.set t y) = (aw raw).set t (.int .i64 y) := by simp [aw]
 rw [e]
 exact dV.1
end
theorem qu.other {wr : World} {D4 D8 D n cq cs : Nat} {fi bl seq gh av : Int} {Q Qs : Option Addr} {raw : List Int} (h : qu w wr D4 D8 D x g fi bl Q n cq sp Qs cs raw seq gh av) (j : Nat) (u : Value) {v : Value} 
 (ho : wr.ownsRow w.heap.size 3 1 v k xs) : (wr.setCell ⟨D, j, none⟩ u).ownsRow w.heap.size 3 1 v k xs := bN ho (h.o.stored j u).2 (fun g hg e => aL h.o ho (by decide) g e hg)
theorem BS (f : Fl) (a n : Nat) : (bT f a n).length = n := by unfold bT; simp
def Zg (X : Nat → Prop) (w : World) (v : Value) (s : St) : Prop :=
 ∃ (Q1 : Option Addr) (c1 : Nat) (Q2 : Option Addr) (c2 : Nat) (Q3 : Option Addr) (c3 : Nat), v = .agg #[.int .i64 s.first, .int .i64 s.aa, .slice Q1 s.ax.length c1, .slice Q2 s.aj.length c2, .slice Q3 s.an.length c3, .int .i64 s.seq, .int .i64 s.block, .int .i64 s.av, .slice none 0 0, .slice none 0 0, .int .i64 0, .int .i64 (-1), .int .i64 0, .int .i64 0, .bool false] ∧
  cn X w Q1 (bK s.ax) ∧ s.ax.length ≤ c1 ∧ c1 ≤ maxLen ∧ cn X w Q2 (aw s.aj) ∧ s.aj.length ≤ c2 ∧ c2 ≤ maxLen ∧ cn X w Q3 (aw s.an) ∧ s.an.length ≤ c3 ∧ c3 ≤ maxLen
def OpS (X : Nat → Prop) (w : World) (g : Fl) (fi bl : Nat) (sp : List eB) (e : Ending) (w' : World) : Prop :=
 ∃ v, e = .returned (.tuple #[v, .int .i64 (cJ g fi bl sp)]) ∧ bW w w' ∧ (cJ g fi bl sp = 0 → Zg X w' v (aJ g fi bl sp)) ∧ (cJ g fi bl sp ≠ 0 → v = Ka)
theorem OpS.no {k : Int} (he : cJ g fi bl sp = k) (hk : k ≠ 0) (hb : bW w w') : OpS X w g fi bl sp (.returned (.tuple #[Ka, .int .i64 k])) w' :=
 ⟨Ka, by rw [he], hb, fun h => absurd (he.symm.trans h) hk, fun _ => rfl⟩
theorem Hv (hd : g.aF = false) (dZ : 2 ≤ bl) (zZ : bl ≤ 16) (Dt : fi + bl ≤ g.aq.length) (yQ : 1 ≤ sp.length) (uC : sp.length ≤ 48) : cJ g fi bl sp = if sp.any fA = true then 3 else if g.pg < cO sp.length then 11 else 0 := by
 unfold cJ
 rw [hd, iN (by decide), iN oM, iN oM, iN oM]
 rfl
structure Qv where
 Q1 : Option Addr
 c1 : Nat
 Q2 : Option Addr
 c2 : Nat
 Q3 : Option Addr
 c3 : Nat
 Q4 : Option Addr
 n4 : Nat
 c4 : Nat
 Q5 : Option Addr
 n5 : Nat
 c5 : Nat
 pg : Int
 er : Int
 nb : Int
 ns : Int
abbrev Qv.l (q : Qv) (s : St) : List Value := [.int .i64 s.first, .int .i64 s.aa, .slice q.Q1 s.ax.length q.c1, .slice q.Q2 s.aj.length q.c2, .slice q.Q3 s.an.length q.c3, .int .i64 s.seq, .int .i64 s.block, .int .i64 s.av, .slice q.Q4 q.n4 q.c4, .slice q.Q5 q.n5 q.c5, .int .i64 q.pg, .int .i64 q.er, .int .i64 q.nb, .int .i64 q.ns, .bool s.af]
abbrev Qv.v (q : Qv) (s : St) : Value := .agg #[.int .i64 s.first, .int .i64 s.aa, .slice q.Q1 s.ax.length q.c1, .slice q.Q2 s.aj.length q.c2, .slice q.Q3 s.an.length q.c3, .int .i64 s.seq, .int .i64 s.block, .int .i64 s.av, .slice q.Q4 q.n4 q.c4, .slice q.Q5 q.n5 q.c5, .int .i64 q.pg, .int .i64 q.er, .int .i64 q.nb, .int .i64 q.ns, .bool s.af]
structure Tg (X : Nat → Prop) (w : World) (q : Qv) (s : St) (p : Nat) : Prop where
 vr : cn X w q.Q4 (aw s.values)
 vl : s.values.length = q.n4
 pr : lU X w q.Q5 (s.bZ.drop s.done)
 pl : (s.bZ.drop s.done).length = q.n5
 qq : q.pg = ((s.first + s.bH) * p + s.bg * s.k + s.done : Nat)
 er : q.er = if s.erase = true then ((s.first + s.bH : Nat) : Int) else -1
 nb : q.nb = s.bH
 ns : q.ns = s.bg
structure ic (X : Nat → Prop) (w : World) (q : Qv) (s : St) (p : Nat) : Prop where
 a : cn X w q.Q1 (bK s.ax)
 a1 : s.ax.length ≤ q.c1
 a2 : q.c1 ≤ maxLen
 b : cn X w q.Q2 (aw s.aj)
 b1 : s.aj.length ≤ q.c2
 b2 : q.c2 ≤ maxLen
 c : cn X w q.Q3 (aw s.an)
 QK : s.an.length ≤ q.c3
 QJ : q.c3 ≤ maxLen
 d1 : q.n4 ≤ q.c4
 d2 : q.c4 ≤ maxLen
 e1 : q.n5 ≤ q.c5
 e2 : q.c5 ≤ maxLen
 wr : s.af = false → s.bt = true → Tg X w q s p
 no : s.af = false → s.bt = false → q.n5 = 0
section
variable {X Y : Nat → Prop} {w w' : World} {q : Qv} {s : St} {p : Nat}
theorem Tg.ao (h : Tg X w q s p) (k : ah X w w') : Tg X w' q s p := ⟨h.vr.ao k, h.vl, h.pr.ao k, h.pl, h.qq, h.er, h.nb, h.ns⟩
theorem Tg.dQ (h : Tg X w q s p) (hY : ∀ b, b < w.heap.size → Y b → X b) : Tg Y w q s p := ⟨h.vr.dQ hY, h.vl, h.pr.dQ hY, h.pl, h.qq, h.er, h.nb, h.ns⟩
theorem ic.ao (h : ic X w q s p) (k : ah X w w') : ic X w' q s p := ⟨h.a.ao k, h.a1, h.a2, h.b.ao k, h.b1, h.b2, h.c.ao k, h.QK, h.QJ, h.d1, h.d2, h.e1, h.e2, fun e1 e2 => (h.wr e1 e2).ao k, h.no⟩
theorem ic.dQ (h : ic X w q s p) (hY : ∀ b, b < w.heap.size → Y b → X b) : ic Y w q s p := ⟨h.a.dQ hY, h.a1, h.a2, h.b.dQ hY, h.b1, h.b2, h.c.dQ hY, h.QK, h.QJ, h.d1, h.d2, h.e1, h.e2, fun e1 e2 => (h.wr e1 e2).dQ hY, h.no⟩
theorem ic.below (h : ic X w q s p) (hb : bW w w') : ic X w' q s p := h.ao (.ak hb)
end
theorem Zg.rv {v : Value} {p : Nat} (h : Zg X w v s) (hb : s.af = false) (hu : s.bt = false) : ∃ q : Qv, v = q.v s ∧ ic X w q s p := by
 obtain ⟨Q1, c1, Q2, c2, Q3, c3, rfl, r1, AW, uS, r2, r21, r22, r3, r31, r32⟩ := h
 exact ⟨⟨Q1, c1, Q2, c2, Q3, c3, none, 0, 0, none, 0, 0, 0, -1, 0, 0⟩, by rw [Qv.v, hb], r1, AW, uS, r2, r21, r22, r3, r31, r32, Nat.le_refl _, Nat.zero_le _, Nat.le_refl _, Nat.zero_le _, (fun _ e => by rw [hu] at e; cases e), fun _ _ => rfl⟩
structure Bq (w wr : World) (D D8 : Nat) (l : List Value) : Prop where
 below : bW w wr
 o8 : wr.ownsRow w.heap.size 43 15 (.slice (some ⟨D8, 0, none⟩) 1 1) 1 zL
 o : wr.ownsRow w.heap.size 43 15 (.slice (some ⟨D, 0, none⟩) 1 1) 1 l
 len : l.length = 15
 ne : D8 ≠ D
section
variable {w wr w' : World} {D D8 : Nat} {l : List Value}
theorem Bq.ab (h : Bq w wr D D8 l) (hb : bW wr w') : Bq w w' D D8 l := ⟨h.below.trans (hb.mono h.below.size), aD h.o8 hb, aD h.o hb, h.len, h.ne⟩
theorem Bq.row (h : Bq w wr D D8 l) (j : Nat) (u : Value) (hj : l[j]? = some u) : wr.cell? ⟨D, j, none⟩ = some u := by
 have aW : j < 15 := by
  have := (List.getElem?_eq_some_iff.1 hj).1
  rw [h.len] at this
  exact this
 rw [h.o.cellAt j oM]
 exact hj
theorem Bq.fz (h : Bq w wr D D8 l) (j : Nat) : wr.frozen? ⟨D, j, none⟩ = false := h.o.frozenAt _
theorem Bq.z (h : Bq w wr D D8 l) (j : Nat) (u : Value) (hj : zL[j]? = some u) : wr.cell? ⟨D8, j, none⟩ = some u := by
 have aW : j < 15 := by
  have := (List.getElem?_eq_some_iff.1 hj).1
  simpa [zL] using this
 rw [h.o8.cellAt j oM]
 exact hj
theorem Bq.zf (h : Bq w wr D D8 l) (j : Nat) : wr.frozen? ⟨D8, j, none⟩ = false := h.o8.frozenAt _
theorem Bq.Ja (h : Bq w wr D D8 l) : w.heap.size ≤ D ∧ w.heap.size ≤ D8 := ⟨(h.o.lt _ rfl).1, (h.o8.lt _ rfl).1⟩
theorem Bq.set (h : Bq w wr D D8 l) (j : Nat) (u : Value) : Bq w (wr.setCell ⟨D, j, none⟩ u) D D8 (l.set j u) := by
 have h1 := h.o.stored j u
 refine ⟨h.below.setCell (p := ⟨D, j, none⟩) h.Ja.1 _, ?_, h1.1, by rw [List.length_set]; exact h.len, h.ne⟩
 refine bN h.o8 h1.2 (fun g' hg e => ?_)
 have e1 : D8 = g' := by simpa [Value.ownBlock] using hg
 have e2 : D = g' := by simpa using e
 exact h.ne (e1.trans e2.symm)
theorem Bq.aside (h : Bq w wr D D8 l) (j : Nat) (u : Value) {e size : Nat} {v : Value} (ho : wr.ownsRow w.heap.size e size v k xs) (he : e ≠ 43) : (wr.setCell ⟨D, j, none⟩ u).ownsRow w.heap.size e size v k xs :=
 bN ho (h.o.stored j u).2 (fun g hg e' => aL h.o ho oM g e' hg)
end
abbrev aS (q : Qv) (s : St) : Array Value := #[.int .i64 s.first, .int .i64 s.aa, .slice q.Q1 s.ax.length q.c1, .slice q.Q2 s.aj.length q.c2, .slice q.Q3 s.an.length q.c3, .int .i64 s.seq, .int .i64 s.block, .int .i64 s.av, .slice q.Q4 q.n4 q.c4, .slice q.Q5 q.n5 q.c5, .int .i64 q.pg, .int .i64 q.er, .int .i64 q.nb, .int .i64 q.ns, .bool s.af]
abbrev Pk (q : Qv) (s : St) (b : Bool) : Array Value := #[.int .i64 s.first, .int .i64 s.aa, .slice q.Q1 s.ax.length q.c1, .slice q.Q2 s.aj.length q.c2, .slice q.Q3 s.an.length q.c3, .int .i64 s.seq, .int .i64 s.block, .int .i64 s.av, .slice q.Q4 q.n4 q.c4, .slice q.Q5 q.n5 q.c5, .int .i64 q.pg, .int .i64 q.er, .int .i64 q.nb, .int .i64 q.ns, .bool b]
abbrev ui (q : Qv) (s : St) (v : Value) (i j : Int) (b : Bool) : Array Value := #[.int .i64 s.first, .int .i64 s.aa, .slice q.Q1 s.ax.length q.c1, .slice q.Q2 s.aj.length q.c2, .slice q.Q3 s.an.length q.c3, .int .i64 s.seq, .int .i64 s.block, .int .i64 s.av, .slice q.Q4 q.n4 q.c4, v, .int .i64 i, .int .i64 j, .int .i64 q.nb, .int .i64 q.ns, .bool b]
abbrev my (q : Qv) (s : St) (n : Nat) (u v : Value) (i j k l : Int) (b : Bool) : Array Value := #[.int .i64 s.first, .int .i64 s.aa, .slice q.Q1 n q.c1, .slice q.Q2 n q.c2, .slice q.Q3 n q.c3, .int .i64 s.seq, .int .i64 s.block, .int .i64 s.av, u, v, .int .i64 i, .int .i64 j, .int .i64 k, .int .i64 l, .bool b]
abbrev UC (q : Qv) (s : St) (x y z : Value) (b : Bool) : Array Value := #[.int .i64 s.first, .int .i64 s.aa, x, y, z, .int .i64 s.seq, .int .i64 s.block, .int .i64 s.av, .slice q.Q4 q.n4 q.c4, .slice q.Q5 q.n5 q.c5, .int .i64 q.pg, .int .i64 q.er, .int .i64 q.nb, .int .i64 q.ns, .bool b]
theorem Fb (a b : List Int) : ch (a ++ b) = (ch a && ch b) := by unfold ch; exact List.all_append
theorem At (f : Fl) (a n : Nat) : ch ((f.img.drop (64 * a)).take (64 * n)) = cG f a n := by
 induction n with
 | zero => rfl
 | succ n ih =>
  rw [ug, show 64 * (n + 1) = 64 * n + 64 by omega, List.take_add, Fb, ih, List.drop_drop]
  congr 2
  unfold aB
  rw [show 64 * a + 64 * n = 64 * (a + n) by omega]
theorem Pb (h : cf X w x g) (a n : Nat) (hn : 1 ≤ n) (SD : a + n ≤ g.aq.length * g.pg) :
 Calls prog 112 #[x.v g, .int .i64 (a : Int), .int .i64 (n : Int)] w fun e w' => e = .returned (.bool (cG g a n)) ∧ bW w w' := by
 have ua := h.lE
 have hlen := h.ok.len
 have mB := h.a1
 have sT := h.a2
 have H := iD h
 rw [← At]
 obtain ⟨NI, Ab⟩ := ex g.img.length
 have hhi : 64 * a + 64 * n ≤ NI := by rw [← Ab, hlen]; omega
 have nj : Hid (((g.img.drop (64 * a)).take (64 * n)).length = 64 * n) := by rw [Hid, List.length_take, List.length_drop, Ab]; omega
 have Zs : Hid (Bytes ((g.img.drop (64 * a)).take (64 * n))) := fun y hy => h.ok.wQ y (List.mem_of_mem_drop (List.mem_of_mem_take hy))
 rw [Ab] at ua mB
 obtain ⟨A, c, B, d, P, r⟩ := x
 simp only at mB sT
 unfold maxLen at sT
 show Calls prog 112 #[.agg #[.slice A g.img.length c, .int .i64 g.pg, .slice B g.aq.length d, .bool g.aF, .int .i64 g.be, .slice P g.az.length r], _, _] w _
 rw [Ab]
 obtain ⟨V, hV⟩ := ex (w.alloc (.cells #[.slice A NI c, .int .i64 g.pg, .slice B g.aq.length d, .bool g.aF, .int .i64 g.be, .slice P g.az.length r] 35))
 have pG : Hid (bW w V) := by rw [← hV]; exact bI _ _
 have v0 : V.cell? ⟨w.heap.size, 0, none⟩ = some (.slice A NI c) := by rw [← hV]; exact cm _ _ _ _ _ _ rfl rfl
 have SH : Rd w w.heap.size A (ag .u8 g.img) := H.a.rd
 have hA : ∃ bb off, A = some ⟨bb, off, none⟩ := by
  obtain ⟨b, off, e, _⟩ := SH (by
   intro e
   have := congrArg List.length e
   rw [aE, Ab] at this
   simp at this
   omega)
  exact ⟨b, off, e⟩
 obtain ⟨bb, off, rfl⟩ := hA
 have J3 : Hid (Rd w w.heap.size (some ⟨bb, off + 64 * a, none⟩) (ag .u8 ((g.img.drop (64 * a)).take (64 * n)))) := SH.part (64 * a) (64 * n)
 obtain ⟨l, hl⟩ := ex ((g.img.drop (64 * a)).take (64 * n))
 rw [hl] at J3 nj Zs ⊢
 obtain ⟨m, hm⟩ := ex (64 * n)
 rw [hm] at nj
 have k0 : IntKind.i64.wrap (64 * (a : Int)) = 64 * (a : Int) := bf _ oM oM
 have k00 : IntKind.i64.wrap ((a : Int) + (n : Int)) = (a : Int) + (n : Int) := bf _ oM oM
 have k01 : IntKind.i64.wrap (64 * ((a : Int) + (n : Int))) = 64 * ((a : Int) + (n : Int)) := bf _ oM oM
 have k1 : 64 * (a : Int) ≤ 64 * ((a : Int) + (n : Int)) := oM
 have k2 : 64 * ((a : Int) + (n : Int)) ≤ (c : Int) := oM
 have k3 : (0 : Int) ≤ 64 * (a : Int) := oM
 have k4 : (64 * (a : Int)).toNat = 64 * a := oM
 have k5 : (64 * ((a : Int) + (n : Int))).toNat = 64 * a + m := oM
 have k6 : ¬ (c = 64 * a) := oM
 have k7 : 64 * a + m - 64 * a = m := oM
 have JO : m ≤ 1000000 := oM
 clear h Ab hlen SH hl hm
 go_enter func112, ntmps112
 go_wp2
 try rw [hV]
 clear hV
 go_loopw [19] (fun i wr => ∃ k : Nat, k ≤ m ∧ i = .int .i64 k ∧ ch (l.take k) = true ∧ bW w wr) (fun i _ => m - (intOf i).toNat)
 case atStart => exact ⟨0, oM, rfl, rfl, pG⟩
 case round =>
  obtain ⟨k, hk, rfl, nz, cQ⟩ := hrel
  have Yd := iD nz
  have Bm := iD cQ
  clear nz cQ
  by_cases aW : k < m
  ·obtain ⟨y, hy⟩ := getElem?_of_lt (l := l) (k := k) (by rw [nj]; exact aW)
   obtain ⟨ba, sI, e, _, c0⟩ := (J3.below Bm cV).mo hy
   injection e with e
   injection e with e1 e2
   subst e1
   subst e2
   have HY := iD hy
   clear hy
   by_cases h255 : y = 255
   ·subst h255
    go_wp2
    go_roundw
    case rel => exact ⟨k + 1, oM, by go_num, lJ HY Yd rfl, Bm⟩
    case measure => simp [intOf]; omega
   have fR : (y != 255) = true := by simpa using h255
   have Fz : Hid (ch l = false) := oQ HY h255
   clear h255
   go_wp2
   go_ret
   exact ⟨by rw [Fz]; rfl, Bm⟩
  have kg : k = m := oM
  subst kg
  have HE : Hid (ch l = true) := by
   have := Yd.out
   rw [List.take_of_length_le (by rw [nj]; exact Nat.le_refl _)] at this
   exact this
  go_wp2
  go_ret
  exact ⟨by rw [HE]; rfl, Bm⟩
theorem OK (x : Rc) (g : Fl) (f : Nat) (Q : Option Addr) (n cq : Nat) (u1 u3 u4 u5 u6 u7 u8 u9 JI JH JG JF FN : Value) (b j : Nat) (w : World) (Nm : f ≤ 64) (hb : b ≤ 64) (hj : j ≤ 64) (hn : n ≤ 48) (hp : g.pg ≤ 16) :
 Calls prog 81 #[.agg #[.int .i64 (f : Int), u1, .slice Q n cq, u3, u4, u5, u6, u7, u8, u9, JI, JH, JG, JF, FN], x.v g, .int .i64 b, .int .i64 j] w fun e w' => e = .returned (.int .i64 (((f + b) * g.pg + j * cO n : Nat) : Int)) ∧ bW w w' := by
 obtain ⟨B, cc, D, d, P, r⟩ := x
 show Calls prog 81 #[.agg #[.int .i64 (f : Int), u1, .slice Q n cq, u3, u4, u5, u6, u7, u8, u9, JI, JH, JG, JF, FN], .agg #[.slice B g.img.length cc, .int .i64 g.pg, .slice D g.aq.length d, .bool g.aF, .int .i64 g.be, .slice P g.az.length r], _, _] w _
 have jk : Hid (∀ w, Calls prog 80 #[.int .i64 (n : Int)] w fun e w' => e = .returned (.int .i64 (cO n : Nat)) ∧ w' = w) := fun w => (oC n oM w).mono fun _ _ h => ⟨h.1, h.2.symm⟩
 have jG := jL hn
 obtain ⟨K, hK⟩ := ex (cO n)
 obtain ⟨pg, iA⟩ := ex g.pg
 obtain ⟨fb, Dt⟩ := ex (f + b)
 obtain ⟨M1, Ad⟩ := ex (fb * pg)
 obtain ⟨M2, xP⟩ := ex (j * K)
 rw [hK] at jk jG
 rw [iA] at hp
 have WG : M1 ≤ 128 * 16 := by rw [← Ad]; exact Nat.mul_le_mul oM hp
 have aaM : M2 ≤ 64 * 8 := by rw [← xP]; exact Nat.mul_le_mul hj jG
 rw [hK, iA, Dt, Ad, xP]
 have t1 : IntKind.i64.wrap ((f : Int) + (b : Int)) = (fb : Int) := by rw [show (f : Int) + (b : Int) = (fb : Int) by omega]; exact bf _ oM oM
 have t2 : IntKind.i64.wrap ((fb : Int) * (pg : Int)) = (M1 : Int) := by
  have e : (fb : Int) * (pg : Int) = (M1 : Int) := by rw [← Ad]; push_cast; rfl
  rw [e]
  exact bf _ oM oM
 have t3 : IntKind.i64.wrap ((j : Int) * (K : Int)) = (M2 : Int) := by
  have e : (j : Int) * (K : Int) = (M2 : Int) := by rw [← xP]; push_cast; rfl
  rw [e]
  exact bf _ oM oM
 have t4 : IntKind.i64.wrap ((M1 : Int) + (M2 : Int)) = ((M1 + M2 : Nat) : Int) := by
  have e : (M1 : Int) + (M2 : Int) = ((M1 + M2 : Nat) : Int) := by push_cast; rfl
  rw [e]
  exact bf _ oM oM
 generalize M1 + M2 = M at *
 clear hK iA Dt Ad xP
 go_enter func81, ntmps81
 go_wp2
 go_quiet ((go_at_call 80; with_reducible exact Calls.quiet_of_same (jk.out _)))
 go_wp2
 go_ret
 exact ⟨rfl, Below.drewN (ck _ _ _) _⟩
def X2 (X : Nat → Prop) (N b : Nat) : Prop := X b ∨ b = N ∨ b = N + 1
theorem cn.two {A : Option Addr} (h : cn X w A xs) : cn (X2 X w.heap.size) w A xs := fun hx => by
 obtain ⟨b, off, e, aW, hn, hc⟩ := h hx
 exact ⟨b, off, e, aW, fun h2 => by
  rcases h2 with h2 | h2 | h2
  ·exact hn h2
  ·omega
  omega, hc⟩
theorem tA {M : Nat} (h : ∀ b, X b → b < N) (hM : N + 1 < M) : ∀ b, X2 X N b → b < M := fun b hb => by
 rcases hb with hb | hb | hb
 ·have := h b hb; omega
 ·omega
 omega
theorem fj (X : Nat → Prop) (N : Nat) : X2 X N N := .inr (.inl rfl)
theorem jl (X : Nat → Prop) (N : Nat) : X2 X N (N + 1) := .inr (.inr rfl)
def iI (w : World) (B : Nat) (a b c d e f : Value) : Prop :=
 w.cell? ⟨B, 0, none⟩ = some a ∧ w.cell? ⟨B, 1, none⟩ = some b ∧ w.cell? ⟨B, 2, none⟩ = some c ∧ w.cell? ⟨B, 3, none⟩ = some d ∧ w.cell? ⟨B, 4, none⟩ = some e ∧ w.cell? ⟨B, 5, none⟩ = some f ∧ ∀ j, w.frozen? ⟨B, j, none⟩ = false
theorem qE (w : World) (a b c d e f : Value) (t : TypeId) (B : Nat) (hB : B = w.heap.size) : iI (w.alloc (.cells #[a, b, c, d, e, f] t)) B a b c d e f := by
 subst hB
 exact ⟨cm _ _ _ _ _ _ rfl rfl, cm _ _ _ _ _ _ rfl rfl, cm _ _ _ _ _ _ rfl rfl, cm _ _ _ _ _ _ rfl rfl, cm _ _ _ _ _ _ rfl rfl, cm _ _ _ _ _ _ rfl rfl, fun j => qj (qU w _ t)⟩
theorem iI.below (h : iI w B a b c d e f) (hb : Below N w w') (hB : B < N) : iI w' B a b c d e f :=
 ⟨(hb.cell (p := ⟨B, 0, none⟩) hB).trans h.1, (hb.cell (p := ⟨B, 1, none⟩) hB).trans h.2.1, (hb.cell (p := ⟨B, 2, none⟩) hB).trans h.2.2.1, (hb.cell (p := ⟨B, 3, none⟩) hB).trans h.2.2.2.1, (hb.cell (p := ⟨B, 4, none⟩) hB).trans h.2.2.2.2.1, (hb.cell (p := ⟨B, 5, none⟩) hB).trans h.2.2.2.2.2.1, fun j => (hb.frozen (p := ⟨B, j, none⟩) hB).trans (h.2.2.2.2.2.2 j)⟩
theorem iI.lt (h : iI w B a b c d e f) : B < w.heap.size := World.block_lt_of_cell? w _ h.1
theorem uO (w : World) (a b c d e f a' b' c' d' e' f' : Value) (t u : TypeId) :
 iI ((w.alloc (.cells #[a, b, c, d, e, f] t)).alloc (.cells #[a', b', c', d', e', f'] u)) w.heap.size a b c d e f ∧ iI ((w.alloc (.cells #[a, b, c, d, e, f] t)).alloc (.cells #[a', b', c', d', e', f'] u)) (w.heap.size + 1) a' b' c' d' e' f' := by
 have hs := World.size_alloc w (.cells #[a, b, c, d, e, f] t)
 exact ⟨(qE w a b c d e f t _ rfl).below (bV.alloc cV _) oM, qE _ _ _ _ _ _ _ _ _ hs.symm⟩
theorem cf.setCell (h : cf X w x g) (p : Addr) (u : Value) (hp : X p.block) : cf X (w.setCell p u) x g :=
 ⟨h.ok, h.a.setCell p u hp, h.a1, h.a2, h.b.setCell p u hp, h.b1, h.b2, h.p.setCell p u hp, h.p1, h.p2⟩
theorem cf.cX {Y : Nat → Prop} (h : cf X w x g) (hX : ∀ b, Y b → X b) : cf Y w x g :=
 ⟨h.ok, h.a.cX hX, h.a1, h.a2, h.b.cX hX, h.b1, h.b2, h.p.cX hX, h.p1, h.p2⟩
theorem cf.two (h : cf X w x g) : cf (X2 X w.heap.size) w x g :=
 ⟨h.ok, h.a.two, h.a1, h.a2, h.b.two, h.b1, h.b2, h.p.two, h.p1, h.p2⟩
theorem cf.cut (h : cf X w x g) : cf X w x (dx g).1 := by
 obtain ⟨e1, e2, e3, e4⟩ := dW g
 obtain ⟨g1, g2⟩ := te h.ok.LK h.ok.LJ
 refine ⟨⟨by rw [e1]; exact h.ok.p1, by rw [e1]; exact h.ok.p2, by rw [e3]; exact h.ok.b1, by rw [e3]; exact h.ok.b2, by rw [e1, e2, e3]; exact h.ok.len, by rw [e2]; exact h.ok.wQ, by rw [e4]; exact h.ok.yz, g1, g2⟩, by rw [e2]; exact h.a, by rw [e2]; exact h.a1, h.a2, by rw [e3]; exact h.b, by rw [e3]; exact h.b1, h.b2, by rw [e4]; exact h.p, by rw [e4]; exact h.p1, h.p2⟩
theorem QI (A : Option Addr) (c : Nat) (B : Option Addr) (d : Nat) (P : Option Addr) (r : Nat) (g : Fl) :
 (Rc.mk A c B d P r).v (dx g).1 = .agg #[.slice A g.img.length c, .int .i64 g.pg, .slice B g.aq.length d, .bool (dx g).1.aF, .int .i64 (dx g).1.be, .slice P g.az.length r] := by
 obtain ⟨e1, e2, e3, e4⟩ := dW g
 unfold Rc.v
 rw [e1, e2, e3, e4]
def pP (w : World) (B : Nat) (a b c d e f : Value) : World := (((((w.setCell ⟨B, 0, none⟩ a).setCell ⟨B, 1, none⟩ b).setCell ⟨B, 2, none⟩ c).setCell ⟨B, 3, none⟩ d).setCell ⟨B, 4, none⟩ e).setCell ⟨B, 5, none⟩ f
theorem yx (w : World) (B : Nat) (a b c d e f : Value) : (pP w B a b c d e f).heap.size = w.heap.size := by simp [pP, World.setCell]
theorem cC (w : World) (p q : Addr) (u : Value) (h : p ≠ q) : (w.setCell p u).cell? q = w.cell? q := World.cell?_setCell_other _ _ _ _ h
theorem iI.iC (h : iI w B a b c d e f) (u : Value) : iI (w.setCell ⟨B, 0, none⟩ u) B u b c d e f :=
 ⟨World.cell?_setCell_same _ _ _ h.1, (cC _ _ _ _ (by simp)).trans h.2.1, (cC _ _ _ _ (by simp)).trans h.2.2.1, (cC _ _ _ _ (by simp)).trans h.2.2.2.1, (cC _ _ _ _ (by simp)).trans h.2.2.2.2.1, (cC _ _ _ _ (by simp)).trans h.2.2.2.2.2.1, fun j => by rw [World.frozen?_setCell]; exact h.2.2.2.2.2.2 j⟩
theorem iI.Vf (h : iI w B a b c d e f) (u : Value) : iI (w.setCell ⟨B, 1, none⟩ u) B a u c d e f :=
 ⟨(cC _ _ _ _ (by simp)).trans h.1, World.cell?_setCell_same _ _ _ h.2.1, (cC _ _ _ _ (by simp)).trans h.2.2.1, (cC _ _ _ _ (by simp)).trans h.2.2.2.1, (cC _ _ _ _ (by simp)).trans h.2.2.2.2.1, (cC _ _ _ _ (by simp)).trans h.2.2.2.2.2.1, fun j => by rw [World.frozen?_setCell]; exact h.2.2.2.2.2.2 j⟩
theorem iI.Ve (h : iI w B a b c d e f) (u : Value) : iI (w.setCell ⟨B, 2, none⟩ u) B a b u d e f :=
 ⟨(cC _ _ _ _ (by simp)).trans h.1, (cC _ _ _ _ (by simp)).trans h.2.1, World.cell?_setCell_same _ _ _ h.2.2.1, (cC _ _ _ _ (by simp)).trans h.2.2.2.1, (cC _ _ _ _ (by simp)).trans h.2.2.2.2.1, (cC _ _ _ _ (by simp)).trans h.2.2.2.2.2.1, fun j => by rw [World.frozen?_setCell]; exact h.2.2.2.2.2.2 j⟩
theorem iI.Vd (h : iI w B a b c d e f) (u : Value) : iI (w.setCell ⟨B, 3, none⟩ u) B a b c u e f :=
 ⟨(cC _ _ _ _ (by simp)).trans h.1, (cC _ _ _ _ (by simp)).trans h.2.1, (cC _ _ _ _ (by simp)).trans h.2.2.1, World.cell?_setCell_same _ _ _ h.2.2.2.1, (cC _ _ _ _ (by simp)).trans h.2.2.2.2.1, (cC _ _ _ _ (by simp)).trans h.2.2.2.2.2.1, fun j => by rw [World.frozen?_setCell]; exact h.2.2.2.2.2.2 j⟩
theorem iI.BF (h : iI w B a b c d e f) (u : Value) : iI (w.setCell ⟨B, 4, none⟩ u) B a b c d u f :=
 ⟨(cC _ _ _ _ (by simp)).trans h.1, (cC _ _ _ _ (by simp)).trans h.2.1, (cC _ _ _ _ (by simp)).trans h.2.2.1, (cC _ _ _ _ (by simp)).trans h.2.2.2.1, World.cell?_setCell_same _ _ _ h.2.2.2.2.1, (cC _ _ _ _ (by simp)).trans h.2.2.2.2.2.1, fun j => by rw [World.frozen?_setCell]; exact h.2.2.2.2.2.2 j⟩
theorem iI.ZQ (h : iI w B a b c d e f) (u : Value) : iI (w.setCell ⟨B, 5, none⟩ u) B a b c d e u :=
 ⟨(cC _ _ _ _ (by simp)).trans h.1, (cC _ _ _ _ (by simp)).trans h.2.1, (cC _ _ _ _ (by simp)).trans h.2.2.1, (cC _ _ _ _ (by simp)).trans h.2.2.2.1, (cC _ _ _ _ (by simp)).trans h.2.2.2.2.1, World.cell?_setCell_same _ _ _ h.2.2.2.2.2.1, fun j => by rw [World.frozen?_setCell]; exact h.2.2.2.2.2.2 j⟩
theorem iI.put (h : iI w B a b c d e f) (a' b' c' d' e' f' : Value) : iI (pP w B a' b' c' d' e' f') B a' b' c' d' e' f' :=
 (((((h.iC a').Vf b').Ve c').Vd d').BF e').ZQ f'
theorem iI.Ff (h : iI w B a b c d e f) (p : Addr) (u : Value) (hp : p.block ≠ B) : iI (w.setCell p u) B a b c d e f := by
 have k : ∀ j, (w.setCell p u).cell? ⟨B, j, none⟩ = w.cell? ⟨B, j, none⟩ := fun j => cC _ _ _ _ (by intro e; exact hp (by rw [e]))
 exact ⟨(k 0).trans h.1, (k 1).trans h.2.1, (k 2).trans h.2.2.1, (k 3).trans h.2.2.2.1, (k 4).trans h.2.2.2.2.1, (k 5).trans h.2.2.2.2.2.1, fun j => by rw [World.frozen?_setCell]; exact h.2.2.2.2.2.2 j⟩
theorem iI.Uy (h : iI w B a b c d e f) (hC : C ≠ B) (a' b' c' d' e' f' : Value) : iI (pP w C a' b' c' d' e' f') B a b c d e f :=
 (((((h.Ff _ _ hC).Ff _ _ hC).Ff _ _ hC).Ff _ _ hC).Ff _ _ hC).Ff _ _ hC
theorem cf.pP (h : cf X w x g) (hC : X C) (a' b' c' d' e' f' : Value) : cf X (pP w C a' b' c' d' e' f') x g :=
 (((((h.setCell _ _ hC).setCell _ _ hC).setCell _ _ hC).setCell _ _ hC).setCell _ _ hC).setCell _ _ hC
theorem qo {w0 : World} (h : Below N w0 w) (hC : N ≤ C) (a' b' c' d' e' f' : Value) : Below N w0 (pP w C a' b' c' d' e' f') :=
 (((((h.setCell (p := ⟨C, 0, none⟩) hC _).setCell (p := ⟨C, 1, none⟩) hC _).setCell (p := ⟨C, 2, none⟩) hC _).setCell (p := ⟨C, 3, none⟩) hC _).setCell (p := ⟨C, 4, none⟩) hC _).setCell (p := ⟨C, 5, none⟩) hC _
theorem ml (h : cf X w x g) (hX : ∀ b, X b → b < w.heap.size) (page : Int) (Q : Option Addr) (m q : Nat) (b : List Int) (hQ : Rd w w.heap.size Q (ag .u8 b)) (hm : b.length = m) (hmq : m ≤ q) (hqm : q ≤ maxLen) (hb : Bytes b) :
 Calls prog 27 #[x.v g, .int .i64 page, .slice Q m q] w fun e w' => ∃ y : Rc, e = .returned (.tuple #[y.v (bz g page b).1, .int .i64 (bz g page b).2]) ∧ cf X w' y (bz g page b).1 ∧ bW w w' := by
 have H := iD h
 have HX := iD hX
 have HQ := iD hQ
 have HM := iD hm
 have ur := iD hb
 unfold maxLen at hqm
 obtain ⟨A, c, B, d, P, r⟩ := x
 show Calls prog 27 #[.agg #[.slice A g.img.length c, .int .i64 g.pg, .slice B g.aq.length d, .bool g.aF, .int .i64 g.be, .slice P g.az.length r], _, _] w _
 obtain ⟨V, hV⟩ := ex ((w.alloc (.cells #[.slice A g.img.length c, .int .i64 g.pg, .slice B g.aq.length d, .bool g.aF, .int .i64 g.be, .slice P g.az.length r] 35)).alloc (.cells Bh 35))
 have pG : Hid (bW w V) := by rw [← hV]; exact ck _ _ _
 have h6 := uO w (.slice A g.img.length c) (.int .i64 g.pg) (.slice B g.aq.length d) (.bool g.aF) (.int .i64 g.be) (.slice P g.az.length r) (.slice none 0 0) (.int .i64 0) (.slice none 0 0) (.bool false) (.int .i64 0) (.slice none 0 0) 35 35
 rw [hV] at h6
 have H6 := iD h6
 have hgV : w.heap.size + 1 < V.heap.size := h6.2.lt
 have hRV : ∀ b, X b → b < V.heap.size := fun b hb => by have := hX b hb; omega
 have ph := iD (yt (h.below pG) hRV page)
 clear hRV
 unfold bz
 by_cases h0 : lZ g page ≠ 0
 ·rw [iP h0]
  have hr : ft g page = ([], lZ g page) := by unfold ft; rw [iP h0]
  rw [hr] at ph
  have hk : (lZ g page != 0) = true := by simpa using h0
  generalize lZ g page = k at *
  obtain ⟨a0, a1, a2, a3, a4, a5, _⟩ := h6.1
  clear h hX hQ hm hb h6 hr h0
  go_enter func27, ntmps27
  go_wp2_with (fail)
  try rw [hV]
  clear hV a0 a1 a2 a3 a4 a5
  refine ph.mono ?_
  rintro e w2 ⟨A2, n2, c2, rfl, qS, uE, nR, oF, dZ⟩
  have fK : Hid (bW w w2) := pG.trans (dZ.mono pG.size)
  have DH := iD (H6.1.below dZ oM)
  have Bo := iD (H6.2.below dZ oM)
  clear qS oF dZ
  simp only
  obtain ⟨a0, a1, a2, a3, a4, a5, a6⟩ := DH.out
  obtain ⟨b0, b1, b2, b3, b4, b5, b6⟩ := Bo.out
  have e0 := b6 0
  have e1 := b6 1
  have e2 := b6 2
  have e3 := b6 3
  have e4 := b6 4
  have e5 := b6 5
  clear a6 b6
  go_wp2
  (try simp only [Exit.inBlock, Exit.then])
  refine bodyPost_ret (v := .tuple #[(Rc.mk A c B d P r).v g, .int .i64 k]) ?_ rfl ⟨⟨A, c, B, d, P, r⟩, rfl, cf.cX (X := X2 X w.heap.size) ?_ (fun _ => .inl), ?_⟩
  ·rw [results_cell_tmp rfl]
   simp only [Rc.v]
   go_simp
  ·(repeat (refine cf.setCell ?_ _ _ (by first | exact fj _ _ | exact jl _ _)))
   exact H.two.below fK
  (repeat (refine Below.setCell ?_ (by simp only; omega) _))
  exact fK
 rw [iN h0]
 have h0' : lZ g page = 0 := oM
 obtain ⟨hd, AZ, sO⟩ := rB h0'
 obtain ⟨p, rfl⟩ : ∃ p : Nat, page = (p : Int) := ⟨page.toNat, oM⟩
 simp only [Int.toNat_natCast]
 have hr : ft g (p : Int) = (aB g p, 0) := by unfold ft; rw [iN h0]; simp only [Int.toNat_natCast]
 rw [hr] at ph
 have ua := h.lE
 have Ud : 64 * p + 64 ≤ g.img.length := by
  rw [h.ok.len]
  have : p + 1 ≤ g.aq.length * g.pg := oM
  omega
 have fQ : (aB g p).length = 64 := by unfold aB; rw [List.length_take, List.length_drop]; omega
 have nj := iD fQ
 rw [hm]
 by_cases hlen : m ≠ 64
 ·rw [iP hlen]
  have hk : ((m : Int) != 64) = true := by simp; omega
  obtain ⟨a0, a1, a2, a3, a4, a5, _⟩ := h6.1
  clear h hX hQ hm hb h6 hr h0 h0' fQ hlen Ud ua AZ sO hd
  go_enter func27, ntmps27
  go_wp2_with (fail)
  try rw [hV]
  clear hV a0 a1 a2 a3 a4 a5
  refine ph.mono ?_
  rintro e w2 ⟨A2, n2, c2, rfl, qS, uE, nR, oF, dZ⟩
  have fK : Hid (bW w w2) := pG.trans (dZ.mono pG.size)
  have DH := iD (H6.1.below dZ oM)
  have Bo := iD (H6.2.below dZ oM)
  clear qS oF dZ
  simp only
  obtain ⟨a0, a1, a2, a3, a4, a5, a6⟩ := DH.out
  obtain ⟨b0, b1, b2, b3, b4, b5, b6⟩ := Bo.out
  have e0 := b6 0
  have e1 := b6 1
  have e2 := b6 2
  have e3 := b6 3
  have e4 := b6 4
  have e5 := b6 5
  clear a6 b6
  go_wp2
  (try simp only [Exit.inBlock, Exit.then])
  refine bodyPost_ret (v := .tuple #[(Rc.mk A c B d P r).v g, .int .i64 11]) ?_ rfl ⟨⟨A, c, B, d, P, r⟩, rfl, cf.cX (X := X2 X w.heap.size) ?_ (fun _ => .inl), ?_⟩
  ·rw [results_cell_tmp rfl]
   simp only [Rc.v]
   go_simp
  ·(repeat (refine cf.setCell ?_ _ _ (by first | exact fj _ _ | exact jl _ _)))
   exact H.two.below fK
  (repeat (refine Below.setCell ?_ (by simp only; omega) _))
  exact fK
 have Sj : m = 64 := oM
 subst Sj
 rw [iN oM]
 obtain ⟨YG, Sb⟩ := ex (aB g p)
 rw [Sb] at ph nj ⊢
 obtain ⟨a0, a1, a2, a3, a4, a5, _⟩ := h6.1
 have uY := iD ua
 have PB := iD Ud
 obtain ⟨R, hR⟩ := ex (if ch YG = false then (g, (12 : Int)) else if (dx g).2 = true then ({ (dx g).1 with img := lay g.img (64 * p) (eK b g.az) }, 20) else ({ (dx g).1 with img := lay g.img (64 * p) b }, 0))
 have Ew : bz g (p : Int) b = R := by
  unfold bz
  rw [iN h0, iN oM]
  simp only [Int.toNat_natCast]
  rw [Sb]
  exact hR
 have MN : Hid R.1.ok := by rw [Hid, ← Ew]; exact nK h.ok hb
 rw [hR]
 have HR := iD hR
 clear h hX hQ hm hb h6 hr h0 h0' fQ hlen Ud ua AZ sO hd Sb hR Ew
 go_enter func27, ntmps27
 go_wp2_with (fail)
 try rw [hV]
 clear hV a0 a1 a2 a3 a4 a5
 refine ph.mono ?_
 rintro e w2 ⟨A2, n2, c2, rfl, qS, uE, nR, oF, dZ⟩
 have fK : Hid (bW w w2) := pG.trans (dZ.mono pG.size)
 have DH := iD (H6.1.below dZ oM)
 have Bo := iD (H6.2.below dZ oM)
 have zW : n2 = 64 := by rw [← qS]; exact nj
 subst zW
 have XJ := iD oF
 have vV : w.heap.size + 1 < w2.heap.size := Bo.lt
 clear qS oF dZ ph H6
 unfold maxLen at nR
 simp only
 go_wp2
 go_loopw [32] (fun i wr => ∃ j : Nat, j ≤ 64 ∧ i = .int .i64 j ∧ ch (YG.take j) = true ∧ w2 = wr) (fun i _ => 64 - (intOf i).toNat)
 case atStart => exact ⟨0, oM, rfl, by simp [ch], rfl⟩
 case round =>
  obtain ⟨j, hj, rfl, cB, rfl⟩ := hrel
  have uM := iD cB
  clear cB
  by_cases aW : j < 64
  ·obtain ⟨z, hz⟩ := getElem?_of_lt (l := YG) (k := j) (by rw [nj]; exact aW)
   obtain ⟨bb, oo, rfl, _, d0⟩ := XJ.rd.mo hz
   by_cases he : z = 255
   ·have TH := iD (lJ hz uM he)
    have he' : (z != 255) = false := by simp [he]
    clear hz he
    go_wp2
    go_roundw
    case rel => exact ⟨j + 1, oM, by go_num, TH, by first | rfl | trivial⟩
    case measure => simp [intOf]; omega
   have Bj := iD (oQ hz he)
   have he' : (z != 255) = true := by simpa using he
   have hq := HR.out
   rw [iP Bj.out] at hq
   subst hq
   clear hz he
   (try simp only)
   obtain ⟨a0, a1, a2, a3, a4, a5, a6⟩ := DH.out
   obtain ⟨b0, b1, b2, b3, b4, b5, b6⟩ := Bo.out
   have e0 := b6 0
   have e1 := b6 1
   have e2 := b6 2
   have e3 := b6 3
   have e4 := b6 4
   have e5 := b6 5
   clear a6 b6
   go_wp2
   (try simp only [Exit.inBlock, Exit.then])
   refine bodyPost_ret (v := .tuple #[(Rc.mk A c B d P r).v g, .int .i64 12]) ?_ rfl ⟨⟨A, c, B, d, P, r⟩, rfl, cf.cX (X := X2 X w.heap.size) ?_ (fun _ => .inl), ?_⟩
   ·rw [results_cell_tmp rfl]
    simp only [Rc.v]
    go_simp
   ·(repeat (refine cf.setCell ?_ _ _ (by first | exact fj _ _ | exact jl _ _)))
    exact H.two.below fK
   (repeat (refine Below.setCell ?_ (by simp only; omega) _))
   exact fK
  have Cn : j = 64 := oM
  subst Cn
  have Bj : Hid (ch YG = true) := by
   have h1 := uM.out
   rw [List.take_of_length_le (by rw [nj]; exact Nat.le_refl _)] at h1
   exact h1
  have hq := HR.out
  rw [iN (by simp [Bj.out])] at hq
  have Jr := iD hq
  have yc := iD (CU (H.below fK))
  rw [QI] at yc
  have Dk := iD (H.below fK).cut
  have lV := iD (dW g)
  obtain ⟨a0, a1, a2, a3, a4, a5, _⟩ := DH.out
  clear hq aW uM
  go_wp2_with (fail)
  clear a0 a1 a2 a3 a4 a5
  refine yc.mono ?_
  rintro e w3 ⟨rfl, gL⟩
  have jd : Hid (bW w w3) := fK.trans (gL.mono fK.size)
  have DG := iD (DH.out.below gL oM)
  have M4 := iD (Bo.below gL oM)
  have vb : Hid (cf (X2 X w.heap.size) w3 ⟨A, c, B, d, P, r⟩ (dx g).1) := H.cut.two.below jd
  clear gL DH Bo yc Dk XJ
  obtain ⟨g', dr⟩ := ex (dx g).1
  obtain ⟨kK, gU⟩ := ex (dx g).2
  rw [dr, gU] at Jr
  rw [dr] at vb lV
  rw [dr, gU]
  have HHG := iD dr
  clear dr gU
  obtain ⟨NI, Ab⟩ := ex g.img.length
  have po := iD Ab
  clear Ab
  obtain ⟨W3, mC⟩ := ex (pP w3 w.heap.size (.slice A g.img.length c) (.int .i64 g.pg) (.slice B g.aq.length d) (.bool g'.aF) (.int .i64 g'.be) (.slice P g.az.length r))
  have uB : W3.heap.size = w3.heap.size := by rw [← mC]; exact yx _ _ _ _ _ _ _ _
  have gj : Hid (bW w W3) := by rw [← mC]; exact qo jd cV _ _ _ _ _ _
  have PM : Hid (cf (X2 X w.heap.size) W3 ⟨A, c, B, d, P, r⟩ g') := by rw [← mC]; exact vb.pP (fj _ _) _ _ _ _ _ _
  have FG : Hid (iI W3 w.heap.size (.slice A g.img.length c) (.int .i64 g.pg) (.slice B g.aq.length d) (.bool g'.aF) (.int .i64 g'.be) (.slice P g.az.length r)) := by rw [← mC]; exact DG.put _ _ _ _ _ _
  have PS : Hid (iI W3 (w.heap.size + 1) (.slice none 0 0) (.int .i64 0) (.slice none 0 0) (.bool false) (.int .i64 0) (.slice none 0 0)) := by rw [← mC]; exact M4.Uy oM _ _ _ _ _ _
  have Ss : w.heap.size + 1 < W3.heap.size := PS.lt
  unfold pP at mC
  obtain ⟨a0, a1, a2, a3, a4, a5, a6⟩ := DG.out
  have f0 := a6 0
  have f1 := a6 1
  have f2 := a6 2
  have f3 := a6 3
  have f4 := a6 4
  have f5 := a6 5
  clear a6
  go_upto_region 13 with (fail)
  try rw [mC]
  clear mC a0 a1 a2 a3 a4 a5 f0 f1 f2 f3 f4 f5 DG M4 vb uB jd
  rw [po] at FG
  have c0b : (W3.alloc (.cells #[] 5)).cell? ⟨w.heap.size, 0, none⟩ = some (.slice A NI c) := (((Below.refl W3.heap.size W3).alloc cV _).cell (p := ⟨w.heap.size, 0, none⟩) (by simp only; omega)).trans FG.1
  have ua := uY.out
  rw [po] at ua
  have zj : Hid ((ag .u8 g.img).length = NI * 1) := by rw [Hid, aE, po, Nat.mul_one]
  obtain ⟨i5, rR, jc, jb, ja⟩ := info_parts kD
  have nQ : 0 ≤ maxLen := Nat.zero_le _
  have Oq := PB.out
  rw [po] at Oq
  go_wp2_with (first | (at_builtin; refine aM _ rfl _ _ 32 rfl W3.heap.size 5 i5 (.int .u8 0) 1 1 underlying32 rR jc jb ja rfl oM _ 0 [] rfl (World.ownsRow_lit W3 #[] 0 cV nQ rfl) w.heap.size _ NI _ (ag .u8 g.img) rfl (H.a.rd.below (gj.alloc gj.size _) cV) zj (cZ _ _) (by unfold maxLen; omega) oM (by simp) ?_))
  intro v' w4 bX hgrow kj
  have xE : Hid (bW W3 w4) := ((Below.refl W3.heap.size W3).alloc cV _).grown hgrow (by simp) (fun k hk => by have hk' : some W3.heap.size = some k := hk; injection hk'; omega)
  try simp only [Nat.zero_add, List.nil_append] at bX
  obtain ⟨A4, c4, rfl, Wp, SA, V8⟩ := a9 bX
  obtain ⟨gb, rfl, V4, ab4⟩ := V8 oM
  have HO := iD bX
  obtain ⟨b', cU⟩ := ex (if kK = true then eK b g.az else b)
  have cB : b'.length = 64 := by rw [← cU]; split; rw [db, HM]; exact HM
  have HB' := iD cU
  have HBL' := iD cB
  clear bX hgrow kj c0b V8 cU cB
  unfold maxLen at SA
  go_wp2
  go_loopw [51] (fun i wr => ∃ j : Nat, j ≤ 64 ∧ i = .int .i64 j ∧ wr.ownsRow W3.heap.size 5 1 (.slice (some ⟨gb, 0, none⟩) NI c4) NI (ag .u8 (lay g.img (64 * p) (b'.take j))) ∧ bW W3 wr) (fun i _ => 64 - (intOf i).toNat)
  case atStart => exact ⟨0, oM, rfl, by rw [List.take_zero, lD]; exact HO, xE⟩
  case round =>
   obtain ⟨j, hj, rfl, ho, hb⟩ := hrel
   have xb := iD ho
   have xD := iD hb
   have ZC : Hid (bW w wr) := gj.trans (xD.mono gj.size)
   clear ho hb
   by_cases aW : j < 64
   ·obtain ⟨z, hz⟩ := getElem?_of_lt (l := b) (k := j) (by rw [HM]; exact aW)
    obtain ⟨bb, oo, rfl, JS, d0⟩ := (HQ.below ZC cV).mo hz
    obtain ⟨y, hy⟩ := getElem?_of_lt (l := b') (k := j) (by rw [HBL']; exact aW)
    have gZ : (lay g.img (64 * p) (b'.take j)).length = NI := by rw [cL _ _ _ (by rw [List.length_take, HBL', po]; omega), po]
    obtain ⟨u, hu⟩ := getElem?_of_lt (l := lay g.img (64 * p) (b'.take j)) (k := 64 * p + j) (by rw [gZ]; omega)
    have k1 : (0 : Int) ≤ 64 * (p : Int) + (j : Int) := oM
    have k2 : 64 * (p : Int) + (j : Int) < (NI : Int) := oM
    have k3 : (64 * (p : Int) + (j : Int)).toNat = 64 * p + j := oM
    have eW : Hid ((lay g.img (64 * p) (b'.take j)).set (64 * p + j) y = lay g.img (64 * p) (b'.take (j + 1))) := jA (by rw [HBL', po]; exact Oq) hy
    cases gU : kK with
    | false =>
     have RT : z = y := by
      have h1 := HB'.out
      rw [gU, iN (by simp)] at h1
      rw [← h1, hz] at hy
      exact Option.some.inj hy
     subst RT
     have e0 := qJ gZ xb hu
     have e1 : wr.frozen? ⟨gb, 64 * p + j, none⟩ = false := xb.frozenAt _
     have n1 := ir xb (64 * p + j) z
     rw [eW] at n1
     have xZ := iD n1
     have uJ : Hid (bW W3 _) := xD.setCell (p := ⟨gb, 64 * p + j, none⟩) V4 (.int .u8 z)
     clear hz hy hu n1 gZ
     go_wp2
     go_roundw
     case rel => exact ⟨j + 1, oM, by go_num, xZ, uJ⟩
     case measure => simp [intOf]; omega
    | true =>
     have Ti : Hid (bits .or .u8 z (dj g.az j) = y) := by
      have h1 := HB'.out
      rw [gU, iP rfl] at h1
      rw [← h1, eJ, hz] at hy
      show _ = _
      simpa [nv] using hy
     have uj := iD (yy (PM.below xD) j oM)
     simp only [lV.out.2.2.2] at uj
     rw [Rc.v, lV.1, lV.2.1, lV.2.2.1, lV.2.2.2, po] at uj
     obtain ⟨a0, a1, a2, a3, a4, a5, _⟩ := FG.below xD oM
     clear hz hy
     go_wp2_with (fail)
     clear a0 a1 a2 a3 a4 a5
     refine uj.mono ?_
     rintro e w5 ⟨rfl, gD⟩
     have RT := Ti.out
     have ke := aD xb gD
     have e0 := qJ gZ ke hu
     have e1 : w5.frozen? ⟨gb, 64 * p + j, none⟩ = false := ke.frozenAt _
     have n1 := ir ke (64 * p + j) y
     rw [eW] at n1
     have xZ := iD n1
     have uJ : Hid (bW W3 _) := (xD.trans (gD.mono xD.size)).setCell (p := ⟨gb, 64 * p + j, none⟩) V4 (.int .u8 y)
     generalize dj g.az j = pk at *
     clear hu n1 gZ gD ke d0
     go_wp2
     go_roundw
     case rel => exact ⟨j + 1, oM, by go_num, xZ, uJ⟩
     case measure => simp [intOf]; omega
   have Cn : j = 64 := oM
   subst Cn
   have eO := xb.out
   rw [List.take_of_length_le (by rw [HBL']; exact Nat.le_refl _), ← HB'] at eO
   have hq := Jr.out
   cases gU : kK with
   | false =>
    rw [gU, iN (by simp)] at eO hq
    subst hq
    have ox := iD eO
    have gZ : (lay g.img (64 * p) b).length = NI := by rw [cL _ _ _ (by rw [HM, po]; exact Oq), po]
    have ya := iD gZ
    have uD := PM.below xD
    have AJ : Hid (cf (X2 X w.heap.size) wr ⟨some ⟨gb, 0, none⟩, c4, B, d, P, r⟩ { g' with img := (lay g.img (64 * p) b) }) := ⟨MN, cn.new (tA HX Ss) cV (by rw [aE]; exact gZ) eO, by simp only [gZ]; exact Wp, SA, uD.b, uD.b1, uD.b2, uD.p, uD.p1, uD.p2⟩
    obtain ⟨a0, a1, a2, a3, a4, a5, a6⟩ := FG.below xD oM
    obtain ⟨b0, b1, b2, b3, b4, b5, b6⟩ := PS.below xD oM
    have f0 := a6 0
    have e0 := b6 0
    have e1 := b6 1
    have e2 := b6 2
    have e3 := b6 3
    have e4 := b6 4
    have e5 := b6 5
    clear a6 b6 eO gZ uD
    go_wp2
    (try simp only [Exit.inBlock, Exit.then])
    refine bodyPost_ret (v := .tuple #[.agg #[.slice (some ⟨gb, 0, none⟩) NI c4, .int .i64 g.pg, .slice B g.aq.length d, .bool g'.aF, .int .i64 g'.be, .slice P g.az.length r], .int .i64 0]) ?_ rfl ⟨⟨some ⟨gb, 0, none⟩, c4, B, d, P, r⟩, by simp only [Rc.v, lV.out.1, lV.out.2.2.1, lV.out.2.2.2, ya.out], cf.cX (X := X2 X w.heap.size) ?_ (fun _ => .inl), ?_⟩
    ·rw [results_cell_tmp rfl]
     go_simp
    ·(repeat (refine cf.setCell ?_ _ _ (by first | exact fj _ _ | exact jl _ _)))
     exact AJ
    (repeat (refine Below.setCell ?_ (by simp only; omega) _))
    exact ZC
   | true =>
    rw [gU, iP rfl] at eO hq
    subst hq
    have ox := iD eO
    have gZ : (lay g.img (64 * p) (eK b g.az)).length = NI := by rw [cL _ _ _ (by rw [db, HM, po]; exact Oq), po]
    have ya := iD gZ
    have uD := PM.below xD
    have AJ : Hid (cf (X2 X w.heap.size) wr ⟨some ⟨gb, 0, none⟩, c4, B, d, P, r⟩ { g' with img := (lay g.img (64 * p) (eK b g.az)) }) := ⟨MN, cn.new (tA HX Ss) cV (by rw [aE]; exact gZ) eO, by simp only [gZ]; exact Wp, SA, uD.b, uD.b1, uD.b2, uD.p, uD.p1, uD.p2⟩
    obtain ⟨a0, a1, a2, a3, a4, a5, a6⟩ := FG.below xD oM
    obtain ⟨b0, b1, b2, b3, b4, b5, b6⟩ := PS.below xD oM
    have f0 := a6 0
    have e0 := b6 0
    have e1 := b6 1
    have e2 := b6 2
    have e3 := b6 3
    have e4 := b6 4
    have e5 := b6 5
    clear a6 b6 eO gZ uD
    go_wp2
    (try simp only [Exit.inBlock, Exit.then])
    refine bodyPost_ret (v := .tuple #[.agg #[.slice (some ⟨gb, 0, none⟩) NI c4, .int .i64 g.pg, .slice B g.aq.length d, .bool g'.aF, .int .i64 g'.be, .slice P g.az.length r], .int .i64 20]) ?_ rfl ⟨⟨some ⟨gb, 0, none⟩, c4, B, d, P, r⟩, by simp only [Rc.v, lV.out.1, lV.out.2.2.1, lV.out.2.2.2, ya.out], cf.cX (X := X2 X w.heap.size) ?_ (fun _ => .inl), ?_⟩
    ·rw [results_cell_tmp rfl]
     go_simp
    ·(repeat (refine cf.setCell ?_ _ _ (by first | exact fj _ _ | exact jl _ _)))
     exact AJ
    (repeat (refine Below.setCell ?_ (by simp only; omega) _))
    exact ZC
end Go.Proofs.YtjdknddnanopaaaGreat
