
/-
  The reference of layer 51: Open, second part: the copy of the specification, the defaults.
-/
import Derived.Test.YtjdknddnanopaaaRW68
namespace Go.Proofs.Ytjdknddnanopaaa
open Go.RowKit
set_option linter.unusedVariables false
set_option linter.unusedSimpArgs false

theorem own_box9 {w : World} {base e size : Nat} {cs : Array Value} {xs : List Value} (hc : cs.toList = xs) (hl : xs.length = size) (hb : base ≤ w.heap.size) :
    (w.alloc (.cells cs e)).ownsRow base e size (.slice (some ⟨w.heap.size, 0, none⟩) 1 1) 1 xs := own_box hc hl hb

theorem Rd.par69 {w : World} {B : Nat} {A : Option Addr} {l : List Par} (h : Rd w B A (pcells l)) {k : Nat} {p : Par} (hp : l[k]? = some p) :
    ∃ b off, A = some ⟨b, off, none⟩ ∧ w.cell? ⟨b, off + k * 3, none⟩ = some (.int .i64 p.lo) ∧ w.cell? ⟨b, off + k * 3 + 1, none⟩ = some (.int .i64 p.hi) ∧ w.cell? ⟨b, off + k * 3 + 2, none⟩ = some (.int .i64 p.df) := by
  have key : ∀ j u, p.cells[j]? = some u → (pcells l)[k * 3 + j]? = some u := fun j u hu => flat_get Par.cells 3 (fun _ => rfl) l k j p u hp hu
  obtain ⟨b, off, e, hlt, hc⟩ := h (by
    intro e
    have := key 0 _ rfl
    rw [e] at this
    simp at this)
  exact ⟨b, off, e, hc _ _ (key 0 _ rfl), hc _ _ (key 1 _ rfl), hc _ _ (key 2 _ rfl)⟩
section
variable {w wr : World} {D4 D8 D n cq cs : Nat} {x : Rc} {g : Fl} {fi bl seq blk slot : Int} {Q Qs : Option Addr} {sp : List Par} {raw : List Int}
/-- A default is appended. -/
theorem RsI.push (h : RsI w wr D4 D8 D x g fi bl Q n cq sp Qs cs raw seq blk slot) {W' : World} {v' : Value} {o : Obj} {y : Int}
    (ho : W'.ownsRow w.heap.size 3 1 v' (raw.length + 1) (icells (raw ++ [y]))) (hg : (wr.alloc o).grownBy W' (Value.slice Qs raw.length cs).ownBlock) :
    ∃ Qs' cs', v' = .slice Qs' (raw.length + 1) cs' ∧ (∀ j u, j ≠ 4 → wr.cell? ⟨D, j, none⟩ = some u → W'.cell? ⟨D, j, none⟩ = some u) ∧ W'.frozen? ⟨D, 4, none⟩ = false ∧ W'.cell? ⟨D, 4, none⟩ = some (.slice Qs raw.length cs) ∧ RsI w (W'.setCell ⟨D, 4, none⟩ (.slice Qs' (raw.length + 1) cs')) D4 D8 D x g fi bl Q n cq sp Qs' cs' (raw ++ [y]) seq blk slot := by
  have hb : Below wr.heap.size wr (wr.alloc o) := (Below.refl _ _).alloc (Nat.le_refl _) o
  have h1 := h.later hb
  obtain ⟨Qs', cs', rfl, _, _, _⟩ := own_form ho
  have ho4 := kept_of h1.o4 hg (fun g' hg' e' => own_ne_own h1.sv h1.o4 (by decide) g' e' hg')
  have ho8 := kept_of h1.o8 hg (fun g' hg' e' => own_ne_own h1.sv h1.o8 (by decide) g' e' hg')
  have hoo := kept_of h1.o hg (fun g' hg' e' => own_ne_own h1.sv h1.o (by decide) g' e' hg')
  have hsp := kept_of h1.sp hg (fun g' hg' e' => own_ne_own h1.sv h1.sp (by decide) g' e' hg')
  have hbl : Below w.heap.size w W' := h1.below.grown hg h1.below.size (fun k hk => (h1.sv.lt k hk).1)
  have hst := hoo.stored 4 (.slice Qs' (raw.length + 1) cs')
  have hD := (hoo.lt _ rfl).1
  have hrow : ∀ j, W'.cell? ⟨D, j, none⟩ = (wr.alloc o).cell? ⟨D, j, none⟩ ∨ 15 ≤ j := by
    intro j
    by_cases hj : j < 15
    · left
      rw [hoo.cellAt j (by omega), h1.o.cellAt j (by omega)]
    · exact .inr (by omega)
  refine ⟨Qs', cs', rfl, fun j u _ hu => ?_, hoo.frozenAt _, ?_, hbl.setCell (p := ⟨D, 4, none⟩) hD _, kept_of ho4 hst.2 (fun g hg e => own_ne_own hoo ho4 (by decide) g e hg), ?_, ?_, kept_of hsp hst.2 (fun g hg e => own_ne_own hoo hsp (by decide) g e hg), ?_, h.ne⟩
  · have hu' := (hb.cell (p := ⟨D, j, none⟩) (h.o.lt _ rfl).2).trans hu
    rcases hrow j with e | e
    · exact e.trans hu'
    · exfalso
      have h15 := h1.o.2
      rcases h15 with ⟨e1, _⟩ | ⟨g1, cap, cur, e1, _, hgc, _, _, hcs, _⟩
      · cases e1
      · injection e1 with e2 _ e4
        injection e2 with e2
        injection e2 with e2
        subst e2
        subst e4
        rw [cell_of_row _ D j cur 46 (0, 0) hgc] at hu'
        have : j < cur.size := by
          have := (Array.getElem?_eq_some_iff.1 hu').1
          exact this
        omega
  · rw [hoo.cellAt 4 (by omega)]
    rfl
  · refine kept_of ho8 hst.2 (fun g' hg e => ?_)
    have e1 : D8 = g' := by simpa [Value.ownBlock] using hg
    have e2 : D = g' := by simpa using e
    exact h.ne (e1.trans e2.symm)
  · have e : (rL fi bl Q n cq Qs raw.length cs seq blk slot).set 4 (.slice Qs' (raw.length + 1) cs') = rL fi bl Q n cq Qs' (raw ++ [y]).length cs' seq blk slot := by
      simp [rL]
    rw [← e]
    exact hst.1
  · have hl : (raw ++ [y]).length = raw.length + 1 := by simp
    rw [hl]
    exact kept_of ho hst.2 (fun g hg e => own_ne_own hoo ho (by decide) g e hg)
end


/-- The pages of a slot that have been read. -/
structure PgJ (w wr : World) (v : Value) (vs : List Value) (ps : List (List Int)) : Prop where
  own : wr.ownsRow w.heap.size 22 1 v ps.length vs
  pg : ∀ (t : Nat) p, ps[t]? = some p → ∃ Q m c, vs[t]? = some (.slice Q m c) ∧ p.length = m ∧ m ≤ c ∧ c ≤ maxLen ∧ RdX (fun b => v.ownBlock = some b) wr Q (kcells .u8 p)
theorem PgJ.nil {w wr : World} : PgJ w wr (.slice none 0 0) [] [] := ⟨World.ownsRow_nil _ _ _ _, fun t p h => by simp at h⟩
theorem PgJ.later {w wr w' : World} {v : Value} {vs : List Value} {ps : List (List Int)} (h : PgJ w wr v vs ps) (hb : Below wr.heap.size wr w') : PgJ w w' v vs ps := by
  refine ⟨own_below h.own hb, fun t p hp => ?_⟩
  obtain ⟨Q, m, c, a1, a2, a3, a4, a5⟩ := h.pg t p hp
  exact ⟨Q, m, c, a1, a2, a3, a4, a5.below hb⟩
theorem rdx_grown {w w' : World} {v v' : Value} {A : Option Addr} {xs : List Value} (h : RdX (fun b => v.ownBlock = some b) w A xs) (hg : w.grownBy w' v.ownBlock) (hv : v'.ownBlock = v.ownBlock ∨ v'.ownBlock = some w.heap.size) : RdX (fun b => v'.ownBlock = some b) w' A xs := fun hx => by
  obtain ⟨b, off, e, hlt, hn, hc⟩ := h hx
  refine ⟨b, off, e, Nat.lt_of_lt_of_le hlt hg.size, fun hb => ?_, fun j u hu => (cell_of_block (hg.block b hlt (fun e' => hn e'.symm))).trans (hc j u hu)⟩
  rcases hv with e1 | e1
  · rw [e1] at hb
    exact hn hb
  · rw [e1] at hb
    injection hb with hb
    omega
theorem PgJ.push {w W W' : World} {v v' : Value} {vs : List Value} {ps : List (List Int)} {p : List Int} {Q : Option Addr} {m c : Nat} {o : Obj} (h : PgJ w W v vs ps) (hp : RdX (fun b => v.ownBlock = some b) W Q (kcells .u8 p)) (h1 : p.length = m) (h2 : m ≤ c) (h3 : c ≤ maxLen)
    (ho : W'.ownsRow w.heap.size 22 1 v' (ps.length + 1) (vs ++ [.slice Q m c])) (hg : (W.alloc o).grownBy W' v.ownBlock) (hv : v'.ownBlock = v.ownBlock ∨ v'.ownBlock = some (W.alloc o).heap.size) : PgJ w W' v' (vs ++ [.slice Q m c]) (ps ++ [p]) := by
  have hb : Below W.heap.size W (W.alloc o) := (Below.refl _ _).alloc (Nat.le_refl _) o
  have hL := h.later hb
  have hvl : vs.length = ps.length := by have := h.own.1; simpa using this
  refine ⟨by rw [List.length_append]; exact ho, fun t q hq => ?_⟩
  by_cases e : t < ps.length
  · rw [List.getElem?_append_left e] at hq
    obtain ⟨Q', m', c', a1, a2, a3, a4, a5⟩ := hL.pg t q hq
    exact ⟨Q', m', c', by rw [List.getElem?_append_left (by omega)]; exact a1, a2, a3, a4, rdx_grown a5 hg hv⟩
  · have e2 : t = ps.length := by
      have := (List.getElem?_eq_some_iff.1 hq).1
      simp at this
      omega
    subst e2
    rw [List.getElem?_append_right (Nat.le_refl _), Nat.sub_self] at hq
    simp at hq
    subst hq
    exact ⟨Q, m, c, by rw [List.getElem?_append_right (by omega), hvl, Nat.sub_self]; rfl, h1, h2, h3, rdx_grown (hp.below hb) hg hv⟩
theorem PgJ.rd {w wr : World} {A : Option Addr} {k c : Nat} {vs : List Value} {ps : List (List Int)} (h : PgJ w wr (.slice A k c) vs ps) : RdP (fun _ => False) wr A ps := by
  have hvl : vs.length = ps.length := by have := h.own.1; simpa using this
  refine ⟨vs, ?_, hvl, fun t p hp => ?_⟩
  · obtain ⟨A', c', e, _, _, hr⟩ := own_read h.own
    injection e with e1 _ _
    rw [e1]
    exact fun hx => by
      obtain ⟨b, off, e2, hlt, hc⟩ := hr hx
      exact ⟨b, off, e2, hlt, fun h => h, hc⟩
  · obtain ⟨Q, m, c, a1, a2, a3, a4, a5⟩ := h.pg t p hp
    exact ⟨Q, m, c, a1, a2, a3, a4, a5.newX (fun _ _ h => h.elim)⟩
theorem RAt.high {X Y : Nat → Prop} {w w' : World} {x : Rc} {g : Fl} (h : RAt X w x g) (hb : Below w.heap.size w w') (hY : ∀ b, Y b → w.heap.size ≤ b) : RAt Y w' x g := by
  have key : ∀ A xs, RdX X w A xs → RdX Y w' A xs := fun A xs hr hx => by
    obtain ⟨b, off, e, hlt, _, hc⟩ := hr hx
    exact ⟨b, off, e, Nat.lt_of_lt_of_le hlt hb.size, fun hy => by have := hY b hy; omega, fun j u hu => (hb.cell (p := ⟨b, off + j, none⟩) hlt).trans (hc j u hu)⟩
  exact ⟨h.ok, key _ _ h.a, h.a1, h.a2, key _ _ h.b, h.b1, h.b2, key _ _ h.p, h.p1, h.p2⟩

section
variable {w wr : World} {D4 D8 D n cq cs : Nat} {x : Rc} {g : Fl} {fi bl seq blk slot : Int} {Q Qs : Option Addr} {sp : List Par} {raw : List Int}
/-- Another row of another type grows beside the store. -/
theorem RsI.beside (h : RsI w wr D4 D8 D x g fi bl Q n cq sp Qs cs raw seq blk slot) {w' : World} {v : Value} {k : Nat} {vs : List Value} (hv : wr.ownsRow w.heap.size 22 1 v k vs) (hg : wr.grownBy w' v.ownBlock) : RsI w w' D4 D8 D x g fi bl Q n cq sp Qs cs raw seq blk slot :=
  ⟨h.below.grown hg h.below.size (fun k hk => (hv.lt k hk).1), kept_of h.o4 hg (fun g' hg' e' => own_ne_own hv h.o4 (by decide) g' e' hg'), kept_of h.o8 hg (fun g' hg' e' => own_ne_own hv h.o8 (by decide) g' e' hg'),
    kept_of h.o hg (fun g' hg' e' => own_ne_own hv h.o (by decide) g' e' hg'), kept_of h.sp hg (fun g' hg' e' => own_ne_own hv h.sp (by decide) g' e' hg'), kept_of h.sv hg (fun g' hg' e' => own_ne_own hv h.sv (by decide) g' e' hg'), h.ne⟩
end
/-- The reference's search and the program's. -/
structure RelS (s : St) (raw : List Int) (seq blk slot : Int) : Prop where
  rq : seq = s.seq
  rb : blk = s.block
  rs : slot = s.slot
  rl : raw.length = s.spec.length
  rg : legal s.spec raw = s.saved
theorem RelS.no {f : Fl} {s : St} {b j : Nat} {raw : List Int} {seq blk slot : Int} (h : RelS s raw seq blk slot) {d : Int × List Int × Int} (hd : decP (pagesF f (pageS s f b j) s.k) = d) (hn : d.2.2 ≠ 0 ∨ d.2.1.length ≠ s.spec.length ∨ d.1 ≤ s.seq) : RelS (openStep f s b j) raw seq blk slot := by
  rw [openStep_no hd hn]
  exact h
theorem RelS.yes {f : Fl} {s : St} {b j : Nat} {raw : List Int} {seq blk slot : Int} (h : RelS s raw seq blk slot) {d : Int × List Int × Int} (hd : decP (pagesF f (pageS s f b j) s.k) = d) (hn : ¬ (d.2.2 ≠ 0 ∨ d.2.1.length ≠ s.spec.length ∨ d.1 ≤ s.seq)) : RelS (openStep f s b j) d.2.1 d.1 b j := by
  subst hd
  unfold openStep
  simp only
  rw [if_neg hn]
  exact ⟨rfl, rfl, rfl, by simp only; omega, rfl⟩
set_option maxRecDepth 100000 in
theorem first_r (x : Rc) (g : Fl) (fi bl : Int) (f : Nat) (Q : Option Addr) (n cq : Nat) (Qs : Option Addr) (N cs : Nat) (seq blk slot : Int) (b j : Nat) (w : World) (hf : fi = f) (hf2 : f ≤ 64) (hb : b ≤ 64) (hj : j ≤ 64) (hn : n ≤ 48) (hp : g.pg ≤ 16) :
    Calls Try.prog 104 #[.agg (rL fi bl Q n cq Qs N cs seq blk slot).toArray, x.v g, .int .i64 b, .int .i64 j] w fun e w' => e = .returned (.int .i64 (((f + b) * g.pg + j * pgs n : Nat) : Int)) ∧ Below w.heap.size w w' := by
  subst hf
  obtain ⟨B, cc, D, d, P, r⟩ := x
  show Calls Try.prog 104 #[.agg #[.int .i64 (f : Int), .int .i64 bl, .slice Q n cq, .slice none 0 0, .slice Qs N cs, .int .i64 seq, .int .i64 blk, .int .i64 slot, .slice none 0 0, .slice none 0 0, .int .i64 0, .int .i64 (-1), .int .i64 0, .int .i64 0, .bool false], .agg #[.slice B g.img.length cc, .int .i64 g.pg, .slice D g.wear.length d, .bool g.down, .int .i64 g.fuse, .slice P g.picks.length r], _, _] w _
  have HPG : Hid (∀ w, Calls Try.prog 102 #[.int .i64 (n : Int)] w fun e w' => e = .returned (.int .i64 (pgs n : Nat)) ∧ w' = w) := fun w => (pages_r n (by omega) w).mono fun _ _ h => ⟨h.1, h.2.symm⟩
  have hk8 := pgs_le hn
  obtain ⟨K, hK⟩ : ∃ K, pgs n = K := ⟨_, rfl⟩
  obtain ⟨pg, hpg⟩ : ∃ pg, g.pg = pg := ⟨_, rfl⟩
  obtain ⟨fb, hfb⟩ : ∃ fb, f + b = fb := ⟨_, rfl⟩
  obtain ⟨M1, hM1⟩ : ∃ M, fb * pg = M := ⟨_, rfl⟩
  obtain ⟨M2, hM2⟩ : ∃ M, j * K = M := ⟨_, rfl⟩
  rw [hK] at HPG hk8
  rw [hpg] at hp
  have hM1b : M1 ≤ 128 * 16 := by rw [← hM1]; exact Nat.mul_le_mul (by omega) hp
  have hM2b : M2 ≤ 64 * 8 := by rw [← hM2]; exact Nat.mul_le_mul hj hk8
  rw [hK, hpg, hfb, hM1, hM2]
  have t1 : IntKind.i64.wrap ((f : Int) + (b : Int)) = (fb : Int) := by rw [show (f : Int) + (b : Int) = (fb : Int) by omega]; exact wrap_i64_small _ (by omega) (by omega)
  have t2 : IntKind.i64.wrap ((fb : Int) * (pg : Int)) = (M1 : Int) := by
    have e : (fb : Int) * (pg : Int) = (M1 : Int) := by rw [← hM1]; push_cast; rfl
    rw [e]
    exact wrap_i64_small _ (by omega) (by omega)
  have t3 : IntKind.i64.wrap ((j : Int) * (K : Int)) = (M2 : Int) := by
    have e : (j : Int) * (K : Int) = (M2 : Int) := by rw [← hM2]; push_cast; rfl
    rw [e]
    exact wrap_i64_small _ (by omega) (by omega)
  have t4 : IntKind.i64.wrap ((M1 : Int) + (M2 : Int)) = ((M1 + M2 : Nat) : Int) := by
    have e : (M1 : Int) + (M2 : Int) = ((M1 + M2 : Nat) : Int) := by push_cast; rfl
    rw [e]
    exact wrap_i64_small _ (by omega) (by omega)
  generalize M1 + M2 = M at *
  clear hK hpg hfb hM1 hM2
  go_enter Try.func104, Try.ntmps104
  go_wp2
  go_quiet ((go_at_call 102; with_reducible exact Calls.quiet_of_same (HPG.out _)))
  go_wp2
  go_ret
  exact ⟨rfl, Below.drewN (below_two _ _ _) _⟩
end Go.Proofs.Ytjdknddnanopaaa
