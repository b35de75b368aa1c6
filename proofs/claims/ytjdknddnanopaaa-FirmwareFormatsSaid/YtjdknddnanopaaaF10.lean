/-
  Firmware: a bank as a value, and what each call makes of it. No program in sight.
-/
import Derived.Test.YtjdknddnanopaaaF3
namespace Go.Proofs.Ytjdknddnanopaaa
open Go.RowKit
set_option linter.unusedVariables false

structure Bk where
  first : Nat
  blocks : Nat
  st : St
  broken : Bool
  slot : Nat
  upload : Bool
  dst : Nat
  version : Int
  length : Nat
  fed : Nat
  erase : List Int
  page : Nat
  data : Option (List Int)
  record : Bool
  deriving Inhabited

def Bk.k (b : Bk) : Nat := (b.blocks - 2) / 2
/-- The first block of a slot. -/
def blkB (b : Bk) (s : Nat) : Nat := b.first + 2 + s * b.k
def savB (b : Bk) (i : Nat) : Int := b.st.saved[i]?.getD 0
def rdyB (b : Bk) (f : Fl) : Bk := { b with broken := b.broken || f.down }
/-- The first bytes of a slot. -/
def imgB (f : Fl) (b : Bk) (s n : Nat) : List Int := (f.img.drop (64 * (blkB b s * f.pg))).take n
/-- Parameters of the state, staged from one on. -/
def setN (s : St) (i : Nat) : List Int → St
  | [] => s
  | v :: l => setN (setF s i v) (i + 1) l
/-- No error while they are staged. -/
def setOk (s : St) (i : Nat) : List Int → Prop
  | [] => True
  | v :: l => setE s i v = 0 ∧ setOk (setF s i v) (i + 1) l

def bootB (b : Bk) (f : Fl) : Bk × Fl × Int × Int :=
  if (rdyB b f).broken = true then (rdyB b f, f, 0, 20) else if b.slot ≠ 2 then (rdyB b f, f, 0, 12) else
  if savB b 1 = 2 then ({ rdyB b f with slot := (savB b 0).toNat }, f, savB b 0, 0) else
  let s := if 0 < savB b 2 then setF b.st 2 (savB b 2 - 1) else setF b.st 1 2
  let run := if 0 < savB b 2 then savB b 1 else savB b 0
  if (commitS s f).2.2 ≠ 0 then ({ rdyB b f with st := (commitS s f).1, broken := true }, (commitS s f).2.1, 0, 20)
  else ({ rdyB b f with st := (commitS s f).1, slot := run.toNat }, (commitS s f).2.1, run, 0)

def imageB (b : Bk) (f : Fl) (s : Int) : Bk × List Int × Int :=
  if (rdyB b f).broken = true then (rdyB b f, [], 20) else if ¬ (0 ≤ s ∧ s ≤ 1) then (rdyB b f, [], 10) else
  if savB b (4 + 3 * s.toNat) = 0 ∨ (b.upload = true ∧ (b.dst : Int) = s) then (rdyB b f, [], 12) else
  if sumZ (imgB f b s.toNat (savB b (4 + 3 * s.toNat)).toNat) ≠ savB b (5 + 3 * s.toNat) then (rdyB b f, [], 19) else
  (rdyB b f, imgB f b s.toNat (savB b (4 + 3 * s.toNat)).toNat, 0)

/-- The bank of a region that holds a state. -/
def newB (s : St) (first blocks : Nat) : Bk := ⟨first, blocks, s, false, 2, false, 0, 0, 0, 0, [], 0, none, false⟩
def fwOpenE (f : Fl) (first blocks : Int) : Int :=
  if regE f first blocks ≠ 0 then regE f first blocks else
  let s := openF f first.toNat 2 (fwSpec (sizeF f blocks.toNat))
  if s.saved[4 + 3 * (s.saved[0]?.getD 0).toNat]?.getD 0 = 0 then 12 else 0
def fwOpenB (f : Fl) (first blocks : Int) : Bk := newB (openF f first.toNat 2 (fwSpec (sizeF f blocks.toNat))) first.toNat blocks.toNat

/-- A saved state within its limits. -/
def VecOk (N : Nat) (v : List Int) : Prop :=
  ∃ a t k v0 l0 c0 v1 l1 c1 : Nat, v = [(a : Int), (t : Int), (k : Int), (v0 : Int), (l0 : Int), (c0 : Int), (v1 : Int), (l1 : Int), (c1 : Int)] ∧ a ≤ 1 ∧ t ≤ 2 ∧ k ≤ 3 ∧ v0 ≤ 1073741824 ∧ l0 ≤ N ∧ c0 < 4294967296 ∧ v1 ≤ 1073741824 ∧ l1 ≤ N ∧ c1 < 4294967296
theorem nat_of {x hi : Int} (h0 : 0 ≤ x) (h1 : x ≤ hi) : ∃ n : Nat, x = n ∧ (n : Int) ≤ hi := ⟨x.toNat, by omega, by omega⟩
theorem inPar_of {p : Par} {x : Int} (hb : badP p = false) (h : legalP p x = x) : p.lo ≤ x ∧ x ≤ p.hi := by
  unfold legalP at h
  split at h
  · rename_i h2
    unfold inPar at h2
    simpa using h2
  · unfold badP at hb
    simp only [decide_eq_false_iff_not] at hb
    omega
theorem vec_ok {N : Nat} {v : List Int} (h : Lg (fwSpec N) v) (hl : v.length = 9) : VecOk N v := by
  match v, hl with
  | [a, t, k, v0, l0, c0, v1, l1, c1], _ =>
    unfold Lg legal fwSpec at h
    simp only [List.zipWith_cons_cons, List.zipWith_nil_left, List.cons.injEq, and_true] at h
    obtain ⟨h1, h2, h3, h4, h5, h6, h7, h8, h9⟩ := h
    have q1 := inPar_of (p := ⟨0, 1, 0⟩) rfl h1
    have q2 := inPar_of (p := ⟨0, 2, 2⟩) rfl h2
    have q3 := inPar_of (p := ⟨0, 3, 0⟩) rfl h3
    have q4 := inPar_of (p := ⟨0, 1073741824, 0⟩) rfl h4
    have q5 := inPar_of (p := ⟨0, N, 0⟩) (by unfold badP; simp only [decide_eq_false_iff_not]; omega) h5
    have q6 := inPar_of (p := ⟨0, 4294967295, 0⟩) rfl h6
    have q7 := inPar_of (p := ⟨0, 1073741824, 0⟩) rfl h7
    have q8 := inPar_of (p := ⟨0, N, 0⟩) (by unfold badP; simp only [decide_eq_false_iff_not]; omega) h8
    have q9 := inPar_of (p := ⟨0, 4294967295, 0⟩) rfl h9
    simp only at q1 q2 q3 q4 q5 q6 q7 q8 q9
    obtain ⟨a', rfl, _⟩ := nat_of q1.1 q1.2
    obtain ⟨t', rfl, _⟩ := nat_of q2.1 q2.2
    obtain ⟨k', rfl, _⟩ := nat_of q3.1 q3.2
    obtain ⟨v0', rfl, _⟩ := nat_of q4.1 q4.2
    obtain ⟨l0', rfl, _⟩ := nat_of q5.1 q5.2
    obtain ⟨c0', rfl, _⟩ := nat_of q6.1 q6.2
    obtain ⟨v1', rfl, _⟩ := nat_of q7.1 q7.2
    obtain ⟨l1', rfl, _⟩ := nat_of q8.1 q8.2
    obtain ⟨c1', rfl, _⟩ := nat_of q9.1 q9.2
    exact ⟨a', t', k', v0', l0', c0', v1', l1', c1', rfl, by omega, by omega, by omega, by omega, by omega, by omega, by omega, by omega, by omega⟩

/-- What every walk of a call needs of a bank. -/
structure BkOk (f : Fl) (b : Bk) : Prop where
  ok : StOk f b.st
  sp : b.st.spec = fwSpec (sizeF f b.blocks)
  fi : b.st.first = b.first
  bl : b.st.blocks = 2
  lg : Lg b.st.spec b.st.saved
  br : b.st.broken = false ∨ b.broken = true
  bk : b.blocks = 2 * b.k + 2
  k1 : 1 ≤ b.k
  k8 : b.k ≤ 8
  fw : b.first + b.blocks ≤ f.wear.length
  pg : 2 ≤ f.pg
  slot : b.slot ≤ 2
  dst : b.dst ≤ 1
  ver : 0 ≤ b.version ∧ b.version ≤ 1073741824
  len : b.length ≤ sizeF f b.blocks
  fed : b.fed ≤ b.length
  er : ∀ e ∈ b.erase, 0 ≤ e ∧ e < 64
  dt : ∀ d, b.data = some d → d.length = 64 ∧ Bytes d
  page : b.page < 1024
theorem BkOk.vec {f : Fl} {b : Bk} (h : BkOk f b) : VecOk (sizeF f b.blocks) b.st.saved := by
  have hl := h.lg
  rw [h.sp] at hl
  refine vec_ok hl ?_
  rw [h.ok.sl, h.sp]
  rfl
end Go.Proofs.Ytjdknddnanopaaa
