/-
  A store of parameters as a value, and its calls. No program in sight.
-/
import Derived.Test.YtfeceamhlphelaaPlainP
namespace Go.Proofs.Ytfeceamhlphelaa
open Go.RowKit
set_option linter.unusedVariables false

structure Par where
  lo : Int
  hi : Int
  df : Int
  deriving Inhabited
def Par.cells (p : Par) : List Value := [.int .i64 p.lo, .int .i64 p.hi, .int .i64 p.df]
def I64 (x : Int) : Prop := -9223372036854775808 ≤ x ∧ x < 9223372036854775808
structure Par.ok (p : Par) : Prop where
  l : I64 p.lo
  h : I64 p.hi
  d : I64 p.df

/-- A store. -/
structure St where
  first : Nat
  blocks : Nat
  spec : List Par
  saved : List Int
  staged : List Int
  seq : Int
  block : Nat
  slot : Int
  broken : Bool
  pages : List (List Int)
  values : List Int
  dest : Nat
  toSlot : Nat
  done : Nat
  erase : Bool
  busy : Bool
  deriving Inhabited

def St.k (s : St) : Nat := pgs s.spec.length
def slotsS (s : St) (f : Fl) : Nat := f.pg / s.k
def pageS (s : St) (f : Fl) (b j : Nat) : Nat := (s.first + b) * f.pg + j * s.k
def pagesF (f : Fl) (a n : Nat) : List (List Int) := (List.range n).map fun i => pageF f (a + i)
def blankN (f : Fl) (a n : Nat) : Bool := (List.range n).all fun i => blankF (pageF f (a + i))
def inPar (p : Par) (x : Int) : Bool := decide (p.lo ≤ x ∧ x ≤ p.hi)
def legalP (p : Par) (x : Int) : Int := if inPar p x = true then x else p.df
def legal (sp : List Par) (v : List Int) : List Int := List.zipWith legalP sp v

def openE (f : Fl) (first blocks : Int) (sp : List Par) : Int :=
  if f.down = true then 20 else if blocks < 2 ∨ 16 < blocks then 3 else if first < 0 ∨ (f.wear.length : Int) - blocks < first then 10 else
  if sp.length < 1 ∨ 48 < sp.length then 3 else if sp.any (fun p => decide (p.df < p.lo ∨ p.hi < p.df)) = true then 3 else if f.pg < pgs sp.length then 11 else 0
def initS (first blocks : Nat) (sp : List Par) : St := ⟨first, blocks, sp, sp.map Par.df, [], 0, 0, -1, false, [], [], 0, 0, 0, false, false⟩
def openStep (f : Fl) (s : St) (b j : Nat) : St :=
  let d := decP (pagesF f (pageS s f b j) s.k)
  if d.2.2 ≠ 0 ∨ d.2.1.length ≠ s.spec.length ∨ d.1 ≤ s.seq then s else { s with seq := d.1, block := b, slot := j, saved := legal s.spec d.2.1 }
def openRow (f : Fl) (b : Nat) (s : St) (n : Nat) : St := (List.range n).foldl (fun s j => openStep f s b j) s
def openAll (f : Fl) (n : Nat) (s : St) (m : Nat) : St := (List.range m).foldl (fun s b => openRow f b s n) s
def openF (f : Fl) (first blocks : Nat) (sp : List Par) : St :=
  let s := openAll f (f.pg / pgs sp.length) (initS first blocks sp) blocks
  { s with staged := s.saved }

def getF (s : St) (i : Int) : Int × Int := if i < 0 ∨ (s.spec.length : Int) ≤ i then (0, 10) else (s.staged[i.toNat]?.getD 0, 0)
def setE (s : St) (i v : Int) : Int :=
  if s.broken = true then 20 else if i < 0 ∨ (s.spec.length : Int) ≤ i then 10 else if inPar (s.spec[i.toNat]?.getD default) v = false then 3 else 0
def setF (s : St) (i v : Int) : St := if setE s i v = 0 then { s with staged := s.staged.set i.toNat v } else s

def freeS (s : St) (f : Fl) : Option Nat := (List.range (slotsS s f)).find? fun j => decide (s.slot < j) && blankN f (pageS s f s.block j) s.k
def placeS (s : St) (f : Fl) : St := match freeS s f with
  | some j => { s with dest := s.block, toSlot := j, erase := false }
  | none => { s with dest := (s.block + 1) % s.blocks, toSlot := 0, erase := !blankN f (pageS s f ((s.block + 1) % s.blocks) 0) f.pg }
def brkS (s : St) (f : Fl) : St := { s with broken := s.broken || f.down }
def beginE (s : St) (f : Fl) : Int :=
  if (s.broken || f.down) = true then 20 else if s.busy = true then 14 else if s.staged = s.saved then 12 else encE (s.seq + 1) s.staged.length
def beginS (s : St) (f : Fl) : St :=
  if beginE s f = 0 then { placeS (brkS s f) f with pages := encP (s.seq + 1) s.staged, values := s.staged, done := 0, busy := true } else brkS s f

/-- What a step does to the memory. -/
def opS (s : St) (f : Fl) : Fl × Int :=
  if s.erase = true then eraseF f ((s.first : Int) + s.dest) else progF f ((pageS s f s.dest s.toSlot + s.done : Nat) : Int) (s.pages[s.done]?.getD [])
def tickS (s : St) : St := if s.erase = true then { s with erase := false } else { s with done := s.done + 1 }
def endS (s : St) : St := { s with seq := s.seq + 1, block := s.dest, slot := s.toSlot, saved := s.values, busy := false }
def stepS (s : St) (f : Fl) : St × Fl × Bool × Int :=
  if s.broken = true then (s, f, false, 20) else if s.busy = false then (s, f, false, 12) else
  if (opS s f).2 ≠ 0 then ({ tickS s with broken := true }, (opS s f).1, false, 20) else
  if (tickS s).done < (tickS s).pages.length then (tickS s, (opS s f).1, false, 0) else (endS (tickS s), (opS s f).1, true, 0)

/-- The steps that are left. -/
def leftS (s : St) : Nat := (s.pages.length - s.done) + (if s.erase = true then 1 else 0)
def runS : Nat → St → Fl → St × Fl × Int
  | 0, s, f => (s, f, 0)
  | n + 1, s, f => let q := stepS s f; if q.2.2.1 = true ∨ q.2.2.2 ≠ 0 then (q.1, q.2.1, q.2.2.2) else runS n q.1 q.2.1
def commitS (s : St) (f : Fl) : St × Fl × Int := if beginE s f ≠ 0 then (beginS s f, f, beginE s f) else runS 10 (beginS s f) f

structure StOk (f : Fl) (s : St) : Prop where
  n1 : 1 ≤ s.spec.length
  n2 : s.spec.length ≤ 48
  sp : ∀ p ∈ s.spec, p.ok
  b1 : 2 ≤ s.blocks
  b2 : s.blocks ≤ 16
  fb : s.first + s.blocks ≤ f.wear.length
  kp : s.k ≤ f.pg
  sl : s.saved.length = s.spec.length
  tl : s.staged.length = s.spec.length
  vl : s.values.length = s.spec.length ∨ s.busy = false
  si : ∀ x ∈ s.saved, I64 x
  ti : ∀ x ∈ s.staged, I64 x
  vi : ∀ x ∈ s.values, I64 x
  q1 : 0 ≤ s.seq
  q2 : s.seq ≤ 1099511627776
  bl : s.block < s.blocks
  s1 : -1 ≤ s.slot
  s2 : s.slot < (slotsS s f : Nat)
  pl : s.busy = true → s.pages.length = s.k
  pb : ∀ p ∈ s.pages, p.length = 64 ∧ Bytes p
  tb : s.dest < s.blocks
  ts : s.toSlot < slotsS s f
  dn : s.busy = true → s.broken = false → s.done < s.k
  dk : s.done ≤ s.k
  qb : s.busy = true → s.broken = false → s.seq < 1099511627776

theorem pgs_pos {n : Nat} (h : 1 ≤ n) : 1 ≤ pgs n := by unfold pgs; omega
theorem pgs_le {n : Nat} (h : n ≤ 48) : pgs n ≤ 8 := by unfold pgs; omega
theorem StOk.k1 {f : Fl} {s : St} (h : StOk f s) : 1 ≤ s.k := pgs_pos h.n1
theorem StOk.k8 {f : Fl} {s : St} (h : StOk f s) : s.k ≤ 8 := pgs_le h.n2
theorem StOk.sl1 {f : Fl} {s : St} (h : StOk f s) : 1 ≤ slotsS s f := by
  unfold slotsS
  exact (Nat.le_div_iff_mul_le h.k1).2 (by have := h.kp; omega)
/-- The pages of a slot lie in the block. -/
theorem StOk.slot_in {f : Fl} {s : St} (h : StOk f s) {j : Nat} (hj : j < slotsS s f) : j * s.k + s.k ≤ f.pg := by
  have h1 : (j + 1) * s.k ≤ slotsS s f * s.k := Nat.mul_le_mul_right _ hj
  have h2 : slotsS s f * s.k ≤ f.pg := Nat.div_mul_le_self _ _
  rw [Nat.add_mul, Nat.one_mul] at h1
  omega
theorem StOk.page_in {f : Fl} {s : St} (h : StOk f s) {b j : Nat} (hb : b < s.blocks) (hj : j < slotsS s f) : pageS s f b j + s.k ≤ f.wear.length * f.pg := by
  have h1 := h.slot_in hj
  have h2 : (s.first + b + 1) * f.pg ≤ f.wear.length * f.pg := Nat.mul_le_mul_right _ (by have := h.fb; omega)
  rw [Nat.add_mul (s.first + b), Nat.one_mul] at h2
  unfold pageS
  omega
theorem StOk.block_in {f : Fl} {s : St} (h : StOk f s) {b : Nat} (hb : b < s.blocks) : pageS s f b 0 + f.pg ≤ f.wear.length * f.pg := by
  have h2 : (s.first + b + 1) * f.pg ≤ f.wear.length * f.pg := Nat.mul_le_mul_right _ (by have := h.fb; omega)
  rw [Nat.add_mul (s.first + b), Nat.one_mul] at h2
  unfold pageS
  omega

/-- A memory of the same shape. -/
structure Shape (f g : Fl) : Prop where
  p : g.pg = f.pg
  w : g.wear.length = f.wear.length
theorem Shape.refl (f : Fl) : Shape f f := ⟨rfl, rfl⟩
theorem Shape.trans {f g h : Fl} (a : Shape f g) (b : Shape g h) : Shape f h := ⟨b.p.trans a.p, b.w.trans a.w⟩
theorem cutF_shape (f : Fl) : Shape f (cutF f).1 := ⟨(cutF_same f).1, by rw [(cutF_same f).2.2.1]⟩
theorem progF_shape (f : Fl) (p : Int) (b : List Int) : Shape f (progF f p b).1 := by
  unfold progF
  split
  · exact .refl f
  split
  · exact .refl f
  split
  · exact .refl f
  split
  · exact ⟨(cutF_shape f).p, (cutF_shape f).w⟩
  · exact ⟨(cutF_shape f).p, (cutF_shape f).w⟩
theorem eraseF_shape (f : Fl) (b : Int) : Shape f (eraseF f b).1 := by
  unfold eraseF
  split
  · exact .refl f
  split
  · exact .refl f
  split
  · exact ⟨(cutF_shape f).p, by simp [bumpF_length]⟩
  · exact ⟨(cutF_shape f).p, by simp [bumpF_length]⟩
theorem opS_shape (s : St) (f : Fl) : Shape f (opS s f).1 := by
  unfold opS
  split
  · exact eraseF_shape _ _
  · exact progF_shape _ _ _
theorem startF_shape (f : Fl) : Shape f (startF f) := by unfold startF; split <;> exact ⟨rfl, rfl⟩
theorem fuseF_shape (f : Fl) (n : Int) (p : List Int) : Shape f (fuseF f n p) := ⟨rfl, rfl⟩
theorem Shape.slots {f g : Fl} (h : Shape f g) (s : St) : slotsS s g = slotsS s f := by unfold slotsS; rw [h.p]
theorem Shape.pageS {f g : Fl} (h : Shape f g) (s : St) (b j : Nat) : Ytfeceamhlphelaa.pageS s g b j = Ytfeceamhlphelaa.pageS s f b j := by unfold Ytfeceamhlphelaa.pageS; rw [h.p]
theorem StOk.shape {f g : Fl} {s : St} (h : StOk f s) (hs : Shape f g) : StOk g s :=
  ⟨h.n1, h.n2, h.sp, h.b1, h.b2, by rw [hs.w]; exact h.fb, by rw [hs.p]; exact h.kp, h.sl, h.tl, h.vl, h.si, h.ti, h.vi, h.q1, h.q2, h.bl, h.s1, by rw [hs.slots]; exact h.s2, h.pl, h.pb, h.tb, by rw [hs.slots]; exact h.ts, h.dn, h.dk, h.qb⟩

theorem setF_ok {f : Fl} {s : St} (h : StOk f s) {i v : Int} (hv : I64 v) : StOk f (setF s i v) := by
  unfold setF
  split
  · exact ⟨h.n1, h.n2, h.sp, h.b1, h.b2, h.fb, h.kp, h.sl, by simpa using h.tl, h.vl, h.si, (fun x hx => by
      rcases List.mem_or_eq_of_mem_set hx with g | g
      · exact h.ti x g
      · rw [g]; exact hv), h.vi, h.q1, h.q2, h.bl, h.s1, h.s2, h.pl, h.pb, h.tb, h.ts, h.dn, h.dk, h.qb⟩
  · exact h
theorem brkS_ok {f : Fl} {s : St} (h : StOk f s) : StOk f (brkS s f) :=
  ⟨h.n1, h.n2, h.sp, h.b1, h.b2, h.fb, h.kp, h.sl, h.tl, h.vl, h.si, h.ti, h.vi, h.q1, h.q2, h.bl, h.s1, h.s2, h.pl, h.pb, h.tb, h.ts, (fun a b => h.dn a (by
    have b' : (s.broken || f.down) = false := b
    simp at b'
    exact b'.1)), h.dk, (fun a b => h.qb a (by
    have b' : (s.broken || f.down) = false := b
    simp at b'
    exact b'.1))⟩
theorem freeS_lt {s : St} {f : Fl} {j : Nat} (h : freeS s f = some j) : j < slotsS s f ∧ s.slot < j ∧ blankN f (pageS s f s.block j) s.k = true := by
  unfold freeS at h
  have h1 := List.mem_of_find?_eq_some h
  have h2 := List.find?_some h
  simp at h1 h2
  exact ⟨h1, h2.1, h2.2⟩
theorem encP_ok {seq : Int} {v : List Int} (hv : v.length < 256) : ∀ p ∈ encP seq v, p.length = 64 ∧ Bytes p := by
  intro p hp
  unfold encP at hp
  rw [List.mem_map] at hp
  obtain ⟨k, hk, rfl⟩ := hp
  rw [List.mem_range] at hk
  exact ⟨pageP_length _ _ _, pageP_bytes _ _ _ (by unfold pgs at hk; omega) hv⟩
theorem beginE_zero {s : St} {f : Fl} (h : beginE s f = 0) : s.broken = false ∧ f.down = false ∧ s.busy = false ∧ s.staged ≠ s.saved ∧ encE (s.seq + 1) s.staged.length = 0 := by
  unfold beginE at h
  split at h
  · cases h
  split at h
  · cases h
  split at h
  · cases h
  rename_i a b c
  simp at a b
  exact ⟨a.1, a.2, b, c, h⟩
theorem encE_zero {q : Int} {n : Nat} (h : encE q n = 0) : 1 ≤ q ∧ q ≤ 1099511627776 ∧ 1 ≤ n ∧ n ≤ 48 := by
  unfold encE at h
  split at h
  · cases h
  · omega
theorem placeS_ok {f : Fl} {s : St} (h : StOk f s) : StOk f (placeS s f) := by
  unfold placeS
  split
  · rename_i j hj
    obtain ⟨a, b, c⟩ := freeS_lt hj
    exact ⟨h.n1, h.n2, h.sp, h.b1, h.b2, h.fb, h.kp, h.sl, h.tl, h.vl, h.si, h.ti, h.vi, h.q1, h.q2, h.bl, h.s1, h.s2, h.pl, h.pb, h.bl, a, h.dn, h.dk, h.qb⟩
  · exact ⟨h.n1, h.n2, h.sp, h.b1, h.b2, h.fb, h.kp, h.sl, h.tl, h.vl, h.si, h.ti, h.vi, h.q1, h.q2, h.bl, h.s1, h.s2, h.pl, h.pb, Nat.mod_lt _ (by have := h.b1; omega), h.sl1, h.dn, h.dk, h.qb⟩
theorem encP_len (seq : Int) (v : List Int) : (encP seq v).length = pgs v.length := by simp [encP]
theorem beginS_ok {f : Fl} {s : St} (h : StOk f s) : StOk f (beginS s f) := by
  unfold beginS
  split
  · rename_i h0
    obtain ⟨a, b, c, d, e⟩ := beginE_zero h0
    obtain ⟨e1, e2, e3, e4⟩ := encE_zero e
    have g := placeS_ok (brkS_ok h)
    obtain ⟨s1, hs1⟩ : ∃ s1, placeS (brkS s f) f = s1 := ⟨_, rfl⟩
    have hsp : s1.spec = s.spec := by rw [← hs1]; unfold placeS brkS; simp only; split <;> rfl
    have hq : s1.seq = s.seq := by rw [← hs1]; unfold placeS brkS; simp only; split <;> rfl
    rw [hs1] at g ⊢
    have hk : pgs s.staged.length = s1.k := by rw [h.tl]; unfold St.k; rw [hsp]
    exact ⟨g.n1, g.n2, g.sp, g.b1, g.b2, g.fb, g.kp, g.sl, g.tl, .inl (by rw [hsp]; exact h.tl), g.si, g.ti, h.ti, g.q1, g.q2, g.bl, g.s1, g.s2, (fun _ => by
      rw [encP_len]; exact hk), encP_ok (by omega), g.tb, g.ts, (fun _ _ => g.k1), Nat.zero_le _, (fun _ _ => by simp only [hq]; omega)⟩
  · exact brkS_ok h
theorem tickS_ok {f : Fl} {s : St} (h : StOk f s) (hb : s.busy = true) (hr : s.broken = false) :
    (tickS s).done ≤ s.k ∧ StOk f { tickS s with broken := true } ∧ ((tickS s).done < (tickS s).pages.length → StOk f (tickS s)) ∧ StOk f (endS (tickS s)) := by
  have hd := h.dn hb hr
  have hp := h.pl hb
  have hq := h.qb hb hr
  have hv := h.vl
  rw [hb] at hv
  simp at hv
  unfold tickS
  split
  · exact ⟨h.dk, ⟨h.n1, h.n2, h.sp, h.b1, h.b2, h.fb, h.kp, h.sl, h.tl, h.vl, h.si, h.ti, h.vi, h.q1, h.q2, h.bl, h.s1, h.s2, h.pl, h.pb, h.tb, h.ts, (fun _ b => by cases b), h.dk, (fun _ b => by cases b)⟩,
      fun _ => ⟨h.n1, h.n2, h.sp, h.b1, h.b2, h.fb, h.kp, h.sl, h.tl, h.vl, h.si, h.ti, h.vi, h.q1, h.q2, h.bl, h.s1, h.s2, h.pl, h.pb, h.tb, h.ts, h.dn, h.dk, h.qb⟩,
      ⟨h.n1, h.n2, h.sp, h.b1, h.b2, h.fb, h.kp, hv, h.tl, .inr rfl, h.vi, h.ti, h.vi, by simp only [endS]; have := h.q1; omega, by simp only [endS]; omega, h.tb, by simp only [endS]; omega, by simp only [endS]; exact Int.ofNat_lt.2 h.ts, (fun b => by cases b), h.pb, h.tb, h.ts, (fun b => by cases b), h.dk, (fun b => by cases b)⟩⟩
  · exact ⟨by simp only; omega, ⟨h.n1, h.n2, h.sp, h.b1, h.b2, h.fb, h.kp, h.sl, h.tl, h.vl, h.si, h.ti, h.vi, h.q1, h.q2, h.bl, h.s1, h.s2, h.pl, h.pb, h.tb, h.ts, (fun _ b => by cases b), by simp only; exact hd, (fun _ b => by cases b)⟩,
      fun hlt => ⟨h.n1, h.n2, h.sp, h.b1, h.b2, h.fb, h.kp, h.sl, h.tl, h.vl, h.si, h.ti, h.vi, h.q1, h.q2, h.bl, h.s1, h.s2, h.pl, h.pb, h.tb, h.ts, (fun _ _ => by
        have hlt' : s.done + 1 < s.pages.length := hlt
        rw [hp] at hlt'
        exact hlt'), by simp only; exact hd, h.qb⟩,
      ⟨h.n1, h.n2, h.sp, h.b1, h.b2, h.fb, h.kp, hv, h.tl, .inr rfl, h.vi, h.ti, h.vi, by simp only [endS]; have := h.q1; omega, by simp only [endS]; omega, h.tb, by simp only [endS]; omega, by simp only [endS]; exact Int.ofNat_lt.2 h.ts, (fun b => by cases b), h.pb, h.tb, h.ts, (fun b => by cases b), by simp only [endS]; exact hd, (fun b => by cases b)⟩⟩
theorem stepS_ok {f : Fl} {s : St} (h : StOk f s) : StOk (stepS s f).2.1 (stepS s f).1 := by
  unfold stepS
  split
  · exact h
  split
  · exact h
  rename_i h1 h2
  obtain ⟨_, a, b, c⟩ := tickS_ok h (by simpa using h2) (by simpa using h1)
  split
  · exact a.shape (opS_shape s f)
  split
  · rename_i h4
    exact (b h4).shape (opS_shape s f)
  · exact c.shape (opS_shape s f)
theorem stepS_shape (s : St) (f : Fl) : Shape f (stepS s f).2.1 := by
  unfold stepS
  split
  · exact .refl f
  split
  · exact .refl f
  split
  · exact opS_shape s f
  split
  · exact opS_shape s f
  · exact opS_shape s f
end Go.Proofs.Ytfeceamhlphelaa
