/-
  Even wear: in round r at block b every block has been erased r or r - 1 times, and once more for each power failure at most. No program in sight.
-/
import Derived.Test.YtfeceamhlphelaaPlainK
namespace Go.Proofs.Ytfeceamhlphelaa
open Go.RowKit
set_option linter.unusedVariables false

/-- What the wear of block i is to be, at least, when it is written next. -/
def nxW (r : Int) (b i : Nat) : Int := if i < b then r + 1 else r
/-- A block that is not the current one. -/
structure WCl (F w nx : Int) (bl : Prop) : Prop where
  p0 : 0 ≤ w
  lo : nx ≤ w + 1
  hi : w ≤ nx - 1 + F ∨ w ≤ F
  bk : bl → nx ≤ w
  nb : ¬ bl → w + 1 ≤ nx + F
/-- The wear of the blocks of a region, in round r at block b, with F power failures. -/
structure WInv (W : Nat → Int) (bl : Nat → Prop) (C b : Nat) (r F : Int) : Prop where
  r0 : 0 ≤ r
  f0 : 0 ≤ F
  cur : r ≤ W b ∧ W b ≤ r + F
  oth : ∀ i, i < C → i ≠ b → WCl F (W i) (nxW r b i) (bl i)
/-- The next block is ready. -/
structure Rdy (W : Nat → Int) (bl : Nat → Prop) (C b d : Nat) (r F : Int) : Prop where
  r0 : 0 ≤ r
  f0 : 0 ≤ F
  cur : r ≤ W b ∧ W b ≤ r + F
  nbb : ¬ bl b
  nx : d = (b + 1) % C
  db : d ≠ b
  bC : b < C
  oth : ∀ i, i < C → i ≠ b → i ≠ d → WCl F (W i) (nxW r b i) (bl i)
  rd : nxW r b d ≤ W d ∧ W d ≤ nxW r b d + F

theorem WInv.spread {W : Nat → Int} {bl : Nat → Prop} {C b : Nat} {r F : Int} (h : WInv W bl C b r F) {i j : Nat} (hi : i < C) (hj : j < C) : W i - W j ≤ 1 + F := by
  have h0 := h.r0
  have hf := h.f0
  have hup : W i ≤ r + F := by
    by_cases e : i = b
    · subst e; exact h.cur.2
    · have c := (h.oth i hi e).hi
      unfold nxW at c
      split at c <;> omega
  have hlo : r - 1 ≤ W j := by
    by_cases e : j = b
    · subst e; have := h.cur.1; omega
    · have c := (h.oth j hj e).lo
      unfold nxW at c
      split at c <;> omega
  omega
theorem WCl.more {F w nx : Int} {bl : Prop} (h : WCl F w nx bl) : WCl (F + 1) w nx bl :=
  ⟨h.p0, h.lo, by have := h.hi; omega, h.bk, fun e => by have := h.nb e; omega⟩
theorem WCl.congr {F w nx : Int} {bl bl' : Prop} (h : WCl F w nx bl) (e : bl' ↔ bl) : WCl F w nx bl' :=
  ⟨h.p0, h.lo, h.hi, fun x => h.bk (e.1 x), fun x => h.nb (fun y => x (e.2 y))⟩
theorem WInv.more {W : Nat → Int} {bl : Nat → Prop} {C b : Nat} {r F : Int} (h : WInv W bl C b r F) : WInv W bl C b r (F + 1) :=
  ⟨h.r0, by have := h.f0; omega, by have := h.cur; omega, fun i hi e => (h.oth i hi e).more⟩
theorem WInv.congr {W W' : Nat → Int} {bl bl' : Nat → Prop} {C b : Nat} {r F : Int} (h : WInv W bl C b r F) (hW : ∀ i, W' i = W i) (hb : ∀ i, i < C → i ≠ b → (bl' i ↔ bl i)) : WInv W' bl' C b r F :=
  ⟨h.r0, h.f0, by rw [hW]; exact h.cur, fun i hi e => by rw [hW]; exact (h.oth i hi e).congr (hb i hi e)⟩
theorem nx_nat {C b : Nat} (hC : 2 ≤ C) (hb : b < C) : (b + 1) % C ≠ b := by
  by_cases h : b + 1 < C
  · rw [Nat.mod_eq_of_lt h]; omega
  · rw [show b + 1 = C by omega, Nat.mod_self]; omega
/-- A blank next block. -/
theorem WInv.ready {W : Nat → Int} {bl : Nat → Prop} {C b : Nat} {r F : Int} (h : WInv W bl C b r F) (hC : 2 ≤ C) (hb : b < C) (hn : ¬ bl b) (hd : bl ((b + 1) % C)) : Rdy W bl C b ((b + 1) % C) r F := by
  have hne := nx_nat hC hb
  have hlt : (b + 1) % C < C := Nat.mod_lt _ (by omega)
  have c := h.oth _ hlt hne
  have h0 := h.r0
  have hf := h.f0
  refine ⟨h.r0, h.f0, h.cur, hn, rfl, hne, hb, fun i hi e _ => h.oth i hi e, c.bk hd, ?_⟩
  have := c.hi
  have : 0 ≤ nxW r b ((b + 1) % C) := by unfold nxW; split <;> omega
  omega
/-- The next block is erased. -/
theorem WInv.erased {W W' : Nat → Int} {bl bl' : Nat → Prop} {C b : Nat} {r F : Int} (h : WInv W bl C b r F) (hC : 2 ≤ C) (hb : b < C) (hn : ¬ bl b) (hd : ¬ bl ((b + 1) % C))
    (hW : ∀ i, i ≠ (b + 1) % C → W' i = W i) (hWd : W' ((b + 1) % C) = W ((b + 1) % C) + 1) (hbl : ∀ i, i < C → i ≠ (b + 1) % C → (bl' i ↔ bl i)) : Rdy W' bl' C b ((b + 1) % C) r F := by
  have hne := nx_nat hC hb
  have hlt : (b + 1) % C < C := Nat.mod_lt _ (by omega)
  have c := h.oth _ hlt hne
  refine ⟨h.r0, h.f0, by rw [hW b (fun e => hne e.symm)]; exact h.cur, fun e => hn ((hbl b hb (fun e => hne e.symm)).1 e), rfl, hne, hb, fun i hi e e' => by rw [hW i e']; exact (h.oth i hi e).congr (hbl i hi e'), ?_⟩
  have := c.lo
  have := c.nb hd
  rw [hWd]
  omega
/-- The power fails while the next block is erased. -/
theorem WInv.torn {W W' : Nat → Int} {bl bl' : Nat → Prop} {C b : Nat} {r F : Int} (h : WInv W bl C b r F) (hC : 2 ≤ C) (hb : b < C) (hd : ¬ bl ((b + 1) % C))
    (hW : ∀ i, i ≠ (b + 1) % C → W' i = W i) (hWd : W' ((b + 1) % C) = W ((b + 1) % C) + 1) (hbl : ∀ i, i < C → i ≠ (b + 1) % C → (bl' i ↔ bl i)) : WInv W' bl' C b r (F + 1) := by
  have hne := nx_nat hC hb
  have hlt : (b + 1) % C < C := Nat.mod_lt _ (by omega)
  have c := h.oth _ hlt hne
  have h0 := h.r0
  have hf := h.f0
  refine ⟨h.r0, by omega, by rw [hW b (fun e => hne e.symm)]; have := h.cur; omega, fun i hi e => ?_⟩
  by_cases e' : i = (b + 1) % C
  · subst e'
    rw [hWd]
    have := c.lo
    have := c.nb hd
    have := c.p0
    have : 0 ≤ nxW r b ((b + 1) % C) := by unfold nxW; split <;> omega
    exact ⟨by omega, by omega, by omega, fun _ => by omega, fun _ => by omega⟩
  · rw [hW i e']
    exact ((h.oth i hi e).congr (hbl i hi e')).more
theorem Rdy.congr {W W' : Nat → Int} {bl bl' : Nat → Prop} {C b d : Nat} {r F : Int} (h : Rdy W bl C b d r F) (hW : ∀ i, W' i = W i) (hbl : ∀ i, i < C → i ≠ d → (bl' i ↔ bl i)) : Rdy W' bl' C b d r F :=
  ⟨h.r0, h.f0, by rw [hW]; exact h.cur, fun e => h.nbb ((hbl b h.bC (fun e => h.db e.symm)).1 e), h.nx, h.db, h.bC, fun i hi e e' => by rw [hW]; exact (h.oth i hi e e').congr (hbl i hi e'), by rw [hW]; exact h.rd⟩
theorem Rdy.more {W : Nat → Int} {bl : Nat → Prop} {C b d : Nat} {r F : Int} (h : Rdy W bl C b d r F) : Rdy W bl C b d r (F + 1) :=
  ⟨h.r0, by have := h.f0; omega, by have := h.cur; omega, h.nbb, h.nx, h.db, h.bC, fun i hi e e' => (h.oth i hi e e').more, by have := h.rd; omega⟩
/-- The next block becomes the current one. -/
theorem Rdy.moved {W : Nat → Int} {bl : Nat → Prop} {C b d : Nat} {r F : Int} (h : Rdy W bl C b d r F) : WInv W bl C d (nxW r b d) F := by
  have h0 := h.r0
  have hf := h.f0
  have hb := h.bC
  have hdb := h.db
  have hnx := h.nx
  have hd : (d = b + 1 ∧ nxW r b d = r) ∨ (d = 0 ∧ b + 1 = C ∧ nxW r b d = r + 1) := by
    by_cases e : b + 1 < C
    · rw [Nat.mod_eq_of_lt e] at hnx
      refine .inl ⟨hnx, ?_⟩
      unfold nxW
      rw [if_neg (by omega)]
    · rw [show b + 1 = C by omega, Nat.mod_self] at hnx
      refine .inr ⟨hnx, by omega, ?_⟩
      unfold nxW
      rw [if_pos (by omega)]
  have hr : 0 ≤ nxW r b d := by unfold nxW; split <;> omega
  refine ⟨hr, h.f0, h.rd, fun i hi e => ?_⟩
  have hx : nxW (nxW r b d) d i = if i = b then r + 1 else nxW r b i := by
    rcases hd with ⟨e1, e2⟩ | ⟨e1, e2, e3⟩
    · rw [e2]
      unfold nxW
      subst e1
      repeat' split
      all_goals omega
    · rw [e3]
      unfold nxW
      subst e1
      repeat' split
      all_goals omega
  rw [hx]
  split
  · rename_i e'
    subst e'
    have := h.cur
    exact ⟨by omega, by omega, by omega, fun e => absurd e h.nbb, fun _ => by omega⟩
  · rename_i e'
    exact h.oth i hi e' e
/-- The power fails while the next block is programmed. -/
theorem Rdy.fail {W : Nat → Int} {bl : Nat → Prop} {C b d : Nat} {r F : Int} (h : Rdy W bl C b d r F) : WInv W bl C b r (F + 1) := by
  have h0 := h.r0
  have hf := h.f0
  refine ⟨h.r0, by omega, by have := h.cur; omega, fun i hi e => ?_⟩
  by_cases e' : i = d
  · subst e'
    have := h.rd
    have : 0 ≤ nxW r b i := by unfold nxW; split <;> omega
    exact ⟨by omega, by omega, by omega, fun _ => by omega, fun _ => by omega⟩
  · exact (h.oth i hi e e').more
/-- The wear of a block of the region. -/
def wearW (f : Fl) (fi i : Nat) : Int := f.wear[fi + i]?.getD 0
def blkW (f : Fl) (fi i : Nat) : Prop := ∀ x, (fi + i) * f.pg ≤ x → x < (fi + i) * f.pg + f.pg → pageF f x = blankP
def WLim (f : Fl) (K : Int) : Prop := ∀ i : Nat, 0 ≤ f.wear[i]?.getD 0 ∧ f.wear[i]?.getD 0 ≤ K
def WOut (f : Fl) (fi C : Nat) : Prop := ∀ i : Nat, i < fi ∨ fi + C ≤ i → f.wear[i]?.getD 0 = 0
/-- What is known of the wear between two calls, the newest record being in block b. -/
structure RestW (f : Fl) (s : St) (b : Nat) (F K : Int) : Prop where
  lim : WLim f K
  out : WOut f s.first s.blocks
  st : ∃ r, WInv (wearW f s.first) (blkW f s.first) s.blocks b r F
/-- What is known of the wear while a record is being written. -/
structure BusyW (f : Fl) (s : St) (r F K : Int) : Prop where
  lim : WLim f (if s.erase = true then K else K + 1)
  out : WOut f s.first s.blocks
  st : (s.dest = s.block ∧ s.erase = false ∧ WInv (wearW f s.first) (blkW f s.first) s.blocks s.block r F) ∨
    (s.dest = (s.block + 1) % s.blocks ∧ ((s.erase = true ∧ WInv (wearW f s.first) (blkW f s.first) s.blocks s.block r F ∧ ¬ blkW f s.first s.block ∧ ¬ blkW f s.first s.dest) ∨
      (s.erase = false ∧ Rdy (wearW f s.first) (blkW f s.first) s.blocks s.block s.dest r F)))

theorem WLim.more {f : Fl} {K K' : Int} (h : WLim f K) (hK : K ≤ K') : WLim f K' := fun i => ⟨(h i).1, Int.le_trans (h i).2 hK⟩
/-- Pages of one block alone are changed. -/
theorem blkW_other {f g : Fl} {fi d : Nat} (hp : g.pg = f.pg) (h : ∀ x, ¬ ((fi + d) * f.pg ≤ x ∧ x < (fi + d) * f.pg + f.pg) → pageF g x = pageF f x) {i : Nat} (hi : i ≠ d) : blkW g fi i ↔ blkW f fi i := by
  have key : ∀ x, (fi + i) * f.pg ≤ x → x < (fi + i) * f.pg + f.pg → pageF g x = pageF f x := by
    intro x h1 h2
    refine h x (fun hx => ?_)
    obtain ⟨r, hr⟩ : ∃ r, x = (fi + i) * f.pg + r := ⟨x - (fi + i) * f.pg, by omega⟩
    obtain ⟨r', hr'⟩ : ∃ r', x = (fi + d) * f.pg + r' := ⟨x - (fi + d) * f.pg, by omega⟩
    have := (split_mul (hr.symm.trans hr') (by omega) (by omega)).1
    omega
  unfold blkW
  rw [hp]
  constructor
  · intro hb x h1 h2
    rw [← key x h1 h2]
    exact hb x h1 h2
  · intro hb x h1 h2
    rw [key x h1 h2]
    exact hb x h1 h2
theorem bump_get {l : List Int} {B : Nat} (hB : B < l.length) (hl : 0 ≤ l[B]?.getD 0) (hu : l[B]?.getD 0 ≤ 1000000) (i : Nat) : (bumpF l B)[i]?.getD 0 = if i = B then l[i]?.getD 0 + 1 else l[i]?.getD 0 := by
  unfold bumpF
  rw [List.getElem?_set]
  split
  · rename_i e
    subst e
    rw [if_pos rfl]
    show wrap64 _ = _
    unfold wrap64
    omega
  · rename_i e
    rw [if_neg (fun h => e h.symm)]

theorem StOk.slot_nonblank {f : Fl} {s : St} (h : StOk f s) (hf : f.ok) {b j : Nat} (hb : b < s.blocks) (hj : j < slotsS s f) (hn : blankN f (pageS s f b j) s.k = false ∨ ∃ r, recS f s b j = some r) : ¬ blkW f s.first b := by
  intro hbl
  have hpg : ∀ i, i < s.k → pageF f (pageS s f b j + i) = blankP := fun i hi => by
    have := (h.slot_block (B := s.first + b) hj hi).2 rfl
    exact hbl _ this.1 this.2
  rcases hn with e | ⟨r, e⟩
  · rw [(blankN_iff hf (h.page_in hb hj)).2 hpg] at e
    cases e
  · rw [recS_bad (i := 0) h.k1 (by rw [hpg 0 h.k1]; exact blankP_bad)] at e
    cases e
theorem freeS_none {s : St} {f : Fl} (h : freeS s f = none) {j : Nat} (hj : j < slotsS s f) (hs : s.slot < j) : blankN f (pageS s f s.block j) s.k = false := by
  unfold freeS at h
  rw [List.find?_eq_none] at h
  have := h j (List.mem_range.2 hj)
  simp only [Bool.and_eq_true, decide_eq_true_eq, not_and] at this
  simpa using this hs
/-- A record is begun. -/
theorem RestW.begin {f : Fl} {s : St} {F K : Int} (hl : Live f s) (h : RestW f s s.block F K) (he : beginE s f = 0) : ∃ r, BusyW f (beginS s f) r F K := by
  obtain ⟨r, hr⟩ := h.st
  refine ⟨r, ?_⟩
  have hC := hl.ok.b1
  have hbl := hl.ok.bl
  have hplace : ∀ x : St, x = placeS s f → BusyW f x r F K := by
    rintro x rfl
    obtain ⟨p1, p2, p3, p4, p5, p6, p7, p8, p9⟩ := placeS_same s f
    have hlim : WLim f (if (placeS s f).erase = true then K else K + 1) := h.lim.more (by split <;> omega)
    refine ⟨hlim, by rw [p1, p2]; exact h.out, ?_⟩
    rw [p1, p2, p7]
    unfold placeS
    cases hfree : freeS s f with
    | some j => exact .inl ⟨rfl, rfl, hr⟩
    | none =>
      have hlt : (s.block + 1) % s.blocks < s.blocks := Nat.mod_lt _ (by omega)
      have hnb : ¬ blkW f s.first s.block := by
        by_cases hs : s.slot = -1
        · exact hl.ok.slot_nonblank hl.fok hbl hl.ok.sl1 (.inl (freeS_none hfree hl.ok.sl1 (by omega)))
        · have hn := hl.new
          unfold curS at hn
          rw [if_neg hs] at hn
          obtain ⟨n1, n2, n3, _⟩ := hn
          exact hl.ok.slot_nonblank hl.fok n1 n2 (.inr ⟨_, n3⟩)
      have hblk : blankN f (pageS s f ((s.block + 1) % s.blocks) 0) f.pg = true ↔ blkW f s.first ((s.block + 1) % s.blocks) := by
        rw [blankN_iff hl.fok (hl.ok.block_in hlt)]
        have e0 : pageS s f ((s.block + 1) % s.blocks) 0 = (s.first + (s.block + 1) % s.blocks) * f.pg := by unfold pageS; omega
        rw [e0]
        unfold blkW
        constructor
        · intro hb x h1 h2
          have := hb (x - (s.first + (s.block + 1) % s.blocks) * f.pg) (by omega)
          rw [show (s.first + (s.block + 1) % s.blocks) * f.pg + (x - (s.first + (s.block + 1) % s.blocks) * f.pg) = x by omega] at this
          exact this
        · intro hb i hi
          exact hb _ (by omega) (by omega)
      refine .inr ⟨rfl, ?_⟩
      cases hbn : blankN f (pageS s f ((s.block + 1) % s.blocks) 0) f.pg with
      | true => exact .inr ⟨rfl, hr.ready hC hbl hnb (hblk.1 hbn)⟩
      | false => exact .inl ⟨rfl, hr, hnb, fun hx => by rw [hblk.2 hx] at hbn; cases hbn⟩
  obtain ⟨a1, a2, a3⟩ := hplace _ rfl
  unfold beginS
  rw [if_pos he, hl.brk]
  exact ⟨a1, a2, a3⟩

/-- One step of the writing. -/
theorem BusyW.step {f : Fl} {s : St} {r F K : Int} (hl : Live f s) (hb : s.busy = true) (h : BusyW f s r F K) (hK : K < 1000000) :
    ((stepS s f).2.2.2 = 0 ∧ (stepS s f).2.2.1 = false ∧ BusyW (stepS s f).2.1 (stepS s f).1 r F K) ∨
    ((stepS s f).2.2.2 = 0 ∧ (stepS s f).2.2.1 = true ∧ RestW (stepS s f).2.1 (stepS s f).1 (stepS s f).1.block F (K + 1)) ∨
    ((stepS s f).2.2.2 = 20 ∧ RestW (stepS s f).2.1 (stepS s f).1 s.block (F + 1) (K + 1) ∧ (1 ≤ (stepS s f).1.done → RestW (stepS s f).2.1 (stepS s f).1 s.dest (F + 1) (K + 1))) := by
  have t := hl.tgt hb
  have hC := hl.ok.b1
  have hbl := hl.ok.bl
  obtain ⟨h1, h2, h3⟩ := h
  by_cases he : s.erase = true
  · obtain ⟨er1, er2, er3⟩ := t.er he
    rw [if_pos he] at h1
    have hB : s.first + s.dest < f.wear.length := by have := hl.ok.fb; have := hl.ok.tb; omega
    have hop : opS s f = eraseF f ((s.first + s.dest : Nat) : Int) := by
      unfold opS
      rw [if_pos he]
      congr 1
    obtain ⟨e1, e2, e3⟩ := erase_pages hl.fok hl.up hB
    rw [← hop] at e1 e2 e3
    have htk : tickS s = { s with erase := false } := by unfold tickS; rw [if_pos he]
    rcases h3 with ⟨_, x, _⟩ | ⟨hd, ⟨_, hw, hn1, hn2⟩ | ⟨x, _⟩⟩
    · rw [he] at x; cases x
    · have hg : ∀ i, (opS s f).1.wear[i]?.getD 0 = if i = s.first + s.dest then f.wear[i]?.getD 0 + 1 else f.wear[i]?.getD 0 := by
        intro i
        rw [e2]
        exact bump_get hB (h1 _).1 (by have := (h1 (s.first + s.dest)).2; omega) i
      have hW : ∀ i, i ≠ s.dest → wearW (opS s f).1 s.first i = wearW f s.first i := fun i hi => by
        unfold wearW
        rw [hg, if_neg (by omega)]
      have hWd : wearW (opS s f).1 s.first s.dest = wearW f s.first s.dest + 1 := by
        unfold wearW
        rw [hg, if_pos rfl]
      have hpages : ∀ x, ¬ ((s.first + s.dest) * f.pg ≤ x ∧ x < (s.first + s.dest) * f.pg + f.pg) → pageF (opS s f).1 x = pageF f x := by
        intro x hx
        rcases e3 with ⟨_, _, c3⟩ | ⟨_, _, c3⟩
        · rw [c3, if_neg hx]
        · rw [c3, if_neg hx]
      have hbk : ∀ i, i < s.blocks → i ≠ s.dest → (blkW (opS s f).1 s.first i ↔ blkW f s.first i) := fun i _ hi => blkW_other e1 hpages hi
      have hlim : WLim (opS s f).1 (K + 1) := by
        intro i
        rw [hg]
        have := h1 i
        split <;> omega
      have hout : WOut (opS s f).1 s.first s.blocks := by
        intro i hi
        rw [hg, if_neg (by have := hl.ok.tb; omega)]
        exact h2 i hi
      rw [hd] at hW hWd hbk hn2
      rcases e3 with ⟨c1, _, _⟩ | ⟨c1, _, _⟩
      · have hq := stepS_more (f := f) hl.br hb c1 (by rw [htk]; simp only; rw [er3, hl.ok.pl hb]; exact hl.ok.k1)
        rw [hq, htk]
        have hr := hw.erased hC hbl hn1 hn2 hW hWd hbk
        rw [← hd] at hr
        exact .inl ⟨rfl, rfl, hlim, hout, .inr ⟨hd, .inr ⟨rfl, hr⟩⟩⟩
      · have hq := stepS_fail (f := f) (k := 0) hl.br hb (by rw [c1]; decide)
        rw [hq, htk]
        exact .inr (.inr ⟨rfl, ⟨hlim, hout, r, hw.torn hC hbl hn2 hW hWd hbk⟩, fun hx => by simp only [er3] at hx; omega⟩)
    · rw [he] at x; cases x
  · have he : s.erase = false := by simpa using he
    rw [if_neg (by rw [he]; decide)] at h1
    have hdn := hl.ok.dn hb hl.br
    have hpl := hl.ok.pl hb
    have hin := hl.ok.page_in hl.ok.tb hl.ok.ts
    have hvk : pgs s.values.length = s.k := by unfold St.k; rw [t.vl]
    have hpd : s.pages[s.done]?.getD [] = pageP (s.seq + 1) s.values s.done := by
      rw [t.pgs, encP_at (by omega)]
      rfl
    have hop : opS s f = progF f ((pageS s f s.dest s.toSlot + s.done : Nat) : Int) (pageP (s.seq + 1) s.values s.done) := by
      unfold opS
      rw [if_neg (by rw [he]; decide), hpd]
    have hbp : pageF f (pageS s f s.dest s.toSlot + s.done) = blankP := by
      have := t.pre he s.done hdn
      rw [if_neg (by omega)] at this
      exact this
    obtain ⟨e1, e2, e3⟩ := prog_pages hl.fok hl.up (P := pageS s f s.dest s.toSlot + s.done) (by omega) (pageP_length (s.seq + 1) s.values s.done) hbp
    rw [← hop] at e1 e2 e3
    have htk : tickS s = { s with done := s.done + 1 } := by unfold tickS; rw [if_neg (by rw [he]; decide)]
    have hin2 := (hl.ok.slot_block (b := s.dest) (B := s.first + s.dest) hl.ok.ts hdn).2 rfl
    have hpages : ∀ x, ¬ ((s.first + s.dest) * f.pg ≤ x ∧ x < (s.first + s.dest) * f.pg + f.pg) → pageF (opS s f).1 x = pageF f x := by
      intro x hx
      have hne : x ≠ pageS s f s.dest s.toSlot + s.done := fun e => hx (by rw [e]; exact hin2)
      rcases e3 with ⟨_, _, c3⟩ | ⟨_, _, c3⟩
      · rw [c3, if_neg hne]
      · rw [c3, if_neg hne]
    have hbk : ∀ i, i < s.blocks → i ≠ s.dest → (blkW (opS s f).1 s.first i ↔ blkW f s.first i) := fun i _ hi => blkW_other e1 hpages hi
    have hW : ∀ i, wearW (opS s f).1 s.first i = wearW f s.first i := fun i => by unfold wearW; rw [e2]
    have hlim : WLim (opS s f).1 (K + 1) := fun i => by rw [e2]; exact h1 i
    have hout : WOut (opS s f).1 s.first s.blocks := fun i hi => by rw [e2]; exact h2 i hi
    have hst : (s.dest = s.block ∧ WInv (wearW (opS s f).1 s.first) (blkW (opS s f).1 s.first) s.blocks s.block r F) ∨ (s.dest = (s.block + 1) % s.blocks ∧ Rdy (wearW (opS s f).1 s.first) (blkW (opS s f).1 s.first) s.blocks s.block s.dest r F) := by
      rcases h3 with ⟨hd, _, hw⟩ | ⟨hd, ⟨x, _⟩ | ⟨_, hw⟩⟩
      · exact .inl ⟨hd, hw.congr hW (fun i hi hne => hbk i hi (by rw [hd]; exact hne))⟩
      · rw [he] at x; cases x
      · exact .inr ⟨hd, hw.congr hW hbk⟩
    rcases e3 with ⟨c1, _, _⟩ | ⟨c1, _, _⟩
    · by_cases hlt : s.done + 1 < s.k
      · have hq := stepS_more (f := f) hl.br hb c1 (by rw [htk]; simp only; omega)
        rw [hq, htk]
        refine .inl ⟨rfl, rfl, by simp only; rw [if_neg (by rw [he]; decide)]; exact hlim, hout, ?_⟩
        rcases hst with ⟨hd, hw⟩ | ⟨hd, hw⟩
        · exact .inl ⟨hd, he, hw⟩
        · exact .inr ⟨hd, .inr ⟨he, hw⟩⟩
      · have hq : stepS s f = (endS (tickS s), (opS s f).1, true, 0) := by
          unfold stepS
          rw [if_neg (by rw [hl.br]; decide), if_neg (by rw [hb]; decide), if_neg (by rw [c1]; decide), if_neg (by rw [htk]; simp only; omega)]
        rw [hq, htk]
        refine .inr (.inl ⟨rfl, rfl, hlim, hout, ?_⟩)
        rcases hst with ⟨hd, hw⟩ | ⟨hd, hw⟩
        · refine ⟨r, ?_⟩
          show WInv _ _ _ s.dest r F
          rw [hd]
          exact hw
        · exact ⟨_, hw.moved⟩
    · have hq := stepS_fail (f := f) (k := 0) hl.br hb (by rw [c1]; decide)
      rw [hq, htk]
      refine .inr (.inr ⟨rfl, ⟨hlim, hout, ?_⟩, fun _ => ⟨hlim, hout, ?_⟩⟩)
      · rcases hst with ⟨hd, hw⟩ | ⟨hd, hw⟩
        · exact ⟨r, hw.more⟩
        · exact ⟨r, hw.fail⟩
      · rcases hst with ⟨hd, hw⟩ | ⟨hd, hw⟩
        · refine ⟨r, ?_⟩
          rw [hd]
          exact hw.more
        · exact ⟨_, hw.more.moved⟩

/-- What is known between two calls, with F power failures so far. -/
def WearS (f : Fl) (s : St) (F K : Int) : Prop :=
  (Live f s ∧ s.busy = false ∧ RestW f s s.block F K) ∨ (Dead f s ∧ RestW f s s.block F K ∧ (1 ≤ s.done → RestW f s s.dest F K))
theorem BusyW.run {f : Fl} {s : St} {r F K : Int} (hl : Live f s) (hb : s.busy = true) (h : BusyW f s r F K) (hK : K < 1000000) {n : Nat} (hn : leftS s ≤ n) :
    ((runS n s f).2.2 = 0 ∧ (runS n s f).2.1.down = false ∧ WearS (runS n s f).2.1 (runS n s f).1 F (K + 1)) ∨ ((runS n s f).2.2 = 20 ∧ (runS n s f).2.1.down = true ∧ WearS (runS n s f).2.1 (runS n s f).1 (F + 1) (K + 1)) := by
  induction n generalizing s f with
  | zero => have := left_pos hl.ok hl.br hb; omega
  | succ n ih =>
    have hs := hl.step hb
    have hw := h.step hl hb hK
    rw [runS_succ]
    cases hs with
    | more a1 a2 a3 a4 =>
      have hlf := left_step hl.ok hl.br hb a1 a2
      rw [if_neg (by rw [a1, a2]; simp)]
      rcases hw with ⟨b1, b2, b3⟩ | ⟨b1, b2, b3⟩ | ⟨b1, b2, b3⟩
      · exact ih a3 a4 b3 (by omega)
      · rw [a1] at b2; cases b2
      · rw [a2] at b1; cases b1
    | last a1 a2 a3 a4 =>
      rw [if_pos (.inl a1)]
      rcases hw with ⟨b1, b2, b3⟩ | ⟨b1, b2, b3⟩ | ⟨b1, b2, b3⟩
      · rw [a1] at b2; cases b2
      · exact .inl ⟨a2, a3.up, .inl ⟨a3, a4, b3⟩⟩
      · rw [a2] at b1; cases b1
    | dead a1 a2 a3 a4 a5 a6 a7 a8 a9 a10 a11 =>
      rw [if_pos (.inr (by rw [a2]; decide))]
      rcases hw with ⟨b1, b2, b3⟩ | ⟨b1, b2, b3⟩ | ⟨b1, b2, b3⟩
      · rw [a2] at b1; cases b1
      · rw [a2] at b1; cases b1
      · exact .inr ⟨a2, a3.dn, .inr ⟨a3, by rw [a9]; exact b2, by rw [a11]; exact b3⟩⟩
theorem RestW.later {f : Fl} {s : St} {b : Nat} {F K K' : Int} (h : RestW f s b F K) (hK : K ≤ K') : RestW f s b F K' := ⟨h.lim.more hK, h.out, h.st⟩
theorem WearS.later {f : Fl} {s : St} {F K K' : Int} (h : WearS f s F K) (hK : K ≤ K') : WearS f s F K' := by
  rcases h with ⟨a, b, c⟩ | ⟨a, b, c⟩
  · exact .inl ⟨a, b, c.later hK⟩
  · exact .inr ⟨a, b.later hK, fun e => (c e).later hK⟩
theorem WearS.ok {f : Fl} {s : St} {F K : Int} (h : WearS f s F K) : StOk f s := by
  rcases h with ⟨a, _⟩ | ⟨a, _⟩
  · exact a.ok
  · exact a.ok
theorem WearS.fok {f : Fl} {s : St} {F K : Int} (h : WearS f s F K) : f.ok := by
  rcases h with ⟨a, _⟩ | ⟨a, _⟩
  · exact a.fok
  · exact a.fok
theorem WearS.rest {f : Fl} {s : St} {F K : Int} (h : WearS f s F K) : RestW f s s.block F K := by
  rcases h with ⟨_, _, a⟩ | ⟨_, a, _⟩
  · exact a
  · exact a
/-- A commit. -/
theorem WearS.commit {f : Fl} {s : St} {F K : Int} (h : WearS f s F K) (hd : f.down = false) (hK : K < 1000000) :
    WearS (commitS s f).2.1 (commitS s f).1 (if (commitS s f).2.1.down = true then F + 1 else F) (K + 1) := by
  rcases h with ⟨a, b, c⟩ | ⟨a, _, _⟩
  · by_cases he : beginE s f = 0
    · have hc : commitS s f = runS 10 (beginS s f) f := by unfold commitS; rw [if_neg (by rw [he]; decide)]
      obtain ⟨r, hr⟩ := c.begin a he
      rw [hc]
      rcases hr.run a.begin (begin_fields he).1 hK (begin_left a.ok he) with ⟨_, q1, q2⟩ | ⟨_, q1, q2⟩
      · rw [q1, if_neg (by decide)]; exact q2
      · rw [q1, if_pos rfl]; exact q2
    · rw [commit_codes he, a.begin_no he]
      simp only
      rw [hd, if_neg (by decide)]
      exact .inl ⟨a, b, c.later (by omega)⟩
  · rw [a.dn] at hd; cases hd
theorem RestW.like {f g : Fl} {s s' : St} {b : Nat} {F K : Int} (h : RestW f s b F K) (hi : g.img = f.img) (hp : g.pg = f.pg) (hw : g.wear = f.wear) (h1 : s'.first = s.first) (h2 : s'.blocks = s.blocks) : RestW g s' b F K := by
  obtain ⟨r, hr⟩ := h.st
  have hpage : ∀ x, pageF g x = pageF f x := fun x => by unfold pageF; rw [hi]
  refine ⟨fun i => by rw [hw]; exact h.lim i, fun i hx => by rw [h1, h2] at hx; rw [hw]; exact h.out i hx, r, ?_⟩
  rw [h1, h2]
  refine hr.congr (fun i => by unfold wearW; rw [hw]) (fun i _ _ => ?_)
  unfold blkW
  rw [hp]
  exact ⟨fun hb x a b => by rw [← hpage]; exact hb x a b, fun hb x a b => by rw [hpage]; exact hb x a b⟩
theorem WearS.fuse {f : Fl} {s : St} {F K : Int} (h : WearS f s F K) {n : Int} {p : List Int} (hp : Bytes p) (hn : n < 9223372036854775808) : WearS (fuseF f n p) s F K := by
  have hok := fuseF_ok (n := n) h.fok hp hn
  rcases h with ⟨a, b, c⟩ | ⟨a, b, c⟩
  · exact .inl ⟨a.fl rfl rfl rfl rfl hok, b, c.like rfl rfl rfl rfl rfl⟩
  · exact .inr ⟨a.fl rfl rfl rfl rfl hok, b.like rfl rfl rfl rfl rfl, fun e => (c e).like rfl rfl rfl rfl rfl⟩
theorem WearS.set {f : Fl} {s : St} {F K : Int} (h : WearS f s F K) {i x : Int} (hx : I64 x) : WearS f (setF s i x) F K := by
  have hs : (setF s i x).first = s.first ∧ (setF s i x).blocks = s.blocks ∧ (setF s i x).block = s.block ∧ (setF s i x).busy = s.busy := by unfold setF; split <;> exact ⟨rfl, rfl, rfl, rfl⟩
  rcases h with ⟨a, b, c⟩ | ⟨a, b, c⟩
  · exact .inl ⟨a.set hx, hs.2.2.2.trans b, by rw [hs.2.2.1]; exact c.like rfl rfl rfl hs.1 hs.2.1⟩
  · have hs : setF s i x = s := by
      have : setE s i x = 20 := by unfold setE; rw [if_pos a.br]
      unfold setF
      rw [this, if_neg (by decide)]
    rw [hs]
    exact .inr ⟨a, b, c⟩
/-- The power comes back, and the store is opened. -/
theorem WearS.again {f : Fl} {s : St} {F K : Int} (h : WearS f s F K) (hbad : s.spec.any badP = false) :
    openE (startF f) s.first s.blocks s.spec = 0 ∧ WearS (startF f) (openF (startF f) s.first s.blocks s.spec) F K ∧ Same s (openF (startF f) s.first s.blocks s.spec) := by
  obtain ⟨i1, i2, i3, i4⟩ := startF_same f
  have hok := startF_ok h.fok
  have key : ∀ cur b, Newest f s cur → StOk f s → (∀ x, s.first * f.pg ≤ x → x < (s.first + s.blocks) * f.pg → Trn (pageF f x)) → (∀ q b j v, cur = some (q, b, j, v) → Lg s.spec v) →
      (cur = none → b = 0) → (∀ q b' j v, cur = some (q, b', j, v) → b = b') → RestW f s b F K →
      openE (startF f) s.first s.blocks s.spec = 0 ∧ WearS (startF f) (openF (startF f) s.first s.blocks s.spec) F K ∧ Same s (openF (startF f) s.first s.blocks s.spec) := by
    intro cur b hn ho ht hl h0 h1 hr
    obtain ⟨e1, e2⟩ := open_live hn ho i1 i2 (by rw [i3]) hok i4 ht hbad hl
    refine ⟨e1, .inl ⟨e2.live, e2.busy, ?_⟩, ⟨e2.spec, e2.first, e2.blocks⟩⟩
    have hbk : (openF (startF f) s.first s.blocks s.spec).block = b := by
      cases cur with
      | none => rw [h0 rfl]; exact (e2.no rfl).2
      | some c =>
        obtain ⟨q, b', j, u⟩ := c
        have hrc := e2.rc
        unfold curS at hrc
        split at hrc
        · cases hrc
        · injection hrc with hrc
          simp only [Prod.mk.injEq] at hrc
          rw [h1 q b' j u rfl, hrc.2.1]
    rw [hbk]
    exact hr.like i1 i2 i3 e2.first e2.blocks
  have hcs : ∀ (l : Lg s.spec s.saved), ∀ q b j u, curS s = some (q, b, j, u) → Lg s.spec u ∧ s.block = b := by
    intro l q b j u e
    unfold curS at e
    split at e
    · cases e
    · injection e with e
      simp only [Prod.mk.injEq] at e
      rw [← e.2.2.2]
      exact ⟨l, e.2.1⟩
  have hcn : ∀ (hq : s.slot = -1 → s.block = 0), curS s = none → s.block = 0 := by
    intro hq e
    unfold curS at e
    split at e
    · rename_i e'
      exact hq e'
    · cases e
  rcases h with ⟨a, _, c⟩ | ⟨a, b, c⟩
  · exact key _ _ a.new a.ok a.trn (fun q b j u e => (hcs a.lgs q b j u e).1) (hcn (fun e => (a.q0 e).2.1)) (fun q b j u e => (hcs a.lgs q b j u e).2) c
  · rcases a.new with hn | ⟨hn, hd⟩
    · exact key _ _ hn a.ok a.trn (fun q b j u e => (hcs a.lgs q b j u e).1) (hcn (fun e => (a.q0 e).1)) (fun q b j u e => (hcs a.lgs q b j u e).2) b
    · refine key _ s.dest hn a.ok a.trn (fun q b j u e => ?_) (fun e => by cases e) (fun q b j u e => ?_) (c hd)
      · injection e with e
        simp only [Prod.mk.injEq] at e
        rw [← e.2.2.2]
        exact a.lgv
      · injection e with e
        simp only [Prod.mk.injEq] at e
        exact e.2.1
theorem runS_shape (n : Nat) (s : St) (f : Fl) : Shape f (runS n s f).2.1 := by
  induction n generalizing s f with
  | zero => exact .refl f
  | succ n ih =>
    rw [runS_succ]
    split
    · exact stepS_shape s f
    · exact (stepS_shape s f).trans (ih _ _)
theorem commitS_shape (s : St) (f : Fl) : Shape f (commitS s f).2.1 := by
  unfold commitS
  split
  · exact .refl f
  · exact runS_shape _ _ _
/-- A new flash. -/
theorem WearS.first {B P fi bl : Nat} {sp : List Par} (hf : (newF B P).ok) (hs : ∀ p ∈ sp, p.ok) (he : openE (newF B P) fi bl sp = 0) : WearS (newF B P) (openF (newF B P) fi bl sp) 0 0 := by
  obtain ⟨_, hlv, _, _, hbu, _, hb0, hs1, hs2, hs3⟩ := Surv.first hf (fun x hx => newF_blank (by simpa [newF] using hx)) hs he
  have hw : ∀ i : Nat, (newF B P).wear[i]?.getD 0 = 0 := by
    intro i
    unfold newF
    rw [List.getElem?_replicate]
    split <;> rfl
  refine .inl ⟨hlv, hbu, fun i => by rw [hw]; omega, fun i _ => hw i, 0, ?_⟩
  rw [hb0]
  refine ⟨by omega, by omega, ?_, fun i hi e => ?_⟩
  · unfold wearW
    rw [hw]
    omega
  · have hx : nxW 0 0 i = 0 := by unfold nxW; rw [if_neg (by omega)]
    have hbl : blkW (newF B P) (openF (newF B P) fi bl sp).first i := by
      intro x h1 h2
      have hfb := hlv.ok.fb
      refine newF_blank ?_
      have h3 : ((openF (newF B P) fi bl sp).first + i + 1) * (newF B P).pg ≤ (newF B P).wear.length * (newF B P).pg := Nat.mul_le_mul_right _ (by omega)
      rw [Nat.add_mul _ 1, Nat.one_mul] at h3
      have h4 : (newF B P).wear.length * (newF B P).pg = B * P := by simp [newF]
      omega
    unfold wearW
    rw [hw, hx]
    exact ⟨by omega, by omega, .inr (by omega), fun _ => by omega, fun hn => absurd hbl hn⟩
/-- The wear of any two blocks of the region; other blocks have none. -/
theorem WearS.even {f : Fl} {s : St} {F K : Int} (h : WearS f s F K) : (∀ i j, i < s.blocks → j < s.blocks → wearW f s.first i - wearW f s.first j ≤ 1 + F) ∧ WOut f s.first s.blocks ∧ WLim f K := by
  obtain ⟨r, hr⟩ := h.rest.st
  exact ⟨fun i j hi hj => hr.spread hi hj, h.rest.out, h.rest.lim⟩
end Go.Proofs.Ytfeceamhlphelaa
