/-
  A call of a flash memory, as a value and in memory.
-/
import Derived.Test.YtfeceamhlphelaaPlainT
namespace Go.Proofs.Ytfeceamhlphelaa
open Go.RowKit

structure Ac where
  k : Int
  a : Int
  n : Int
  B : Option Addr
  m : Nat
  e : Nat
  b : List Int
  P : Option Addr
  q : Nat
  r : Nat
  p : List Int

def Ac.cells (x : Ac) : List Value := [.int .u8 x.k, .int .i64 x.a, .int .i64 x.n, .slice x.B x.m x.e, .slice x.P x.q x.r]
theorem Ac.cells_length (x : Ac) : x.cells.length = 5 := rfl
def acells (l : List Ac) : List Value := l.flatMap Ac.cells

structure Ac.ok (x : Ac) (w : World) (B0 : Nat) : Prop where
  rb : Rd w B0 x.B (kcells .u8 x.b)
  lb : x.b.length = x.m
  mb : x.m ≤ x.e
  cb : x.e ≤ maxLen
  bb : Bytes x.b
  rp : Rd w B0 x.P (kcells .u8 x.p)
  lp : x.p.length = x.q
  mp : x.q ≤ x.r
  cp : x.r ≤ maxLen
  bp : Bytes x.p
  sq : x.q ≤ 140737488351232
  k0 : 0 ≤ x.k
  k1 : x.k < 256
  wa : (Lit.int .i64 x.a).wf = true
  wn : (Lit.int .i64 x.n).wf = true

theorem Ac.ok.below {x : Ac} {w w' : World} {B0 B1 : Nat} (h : x.ok w B0) (hb : Below B1 w w') (hB : B0 ≤ B1) : x.ok w' B0 :=
  ⟨h.rb.below hb hB, h.lb, h.mb, h.cb, h.bb, h.rp.below hb hB, h.lp, h.mp, h.cp, h.bp, h.sq, h.k0, h.k1, h.wa, h.wn⟩

theorem Rd.ac {w : World} {B : Nat} {A : Option Addr} {l : List Ac} (h : Rd w B A (acells l)) {k : Nat} {x : Ac} (hx : l[k]? = some x) :
    ∃ b off, A = some ⟨b, off, none⟩ ∧ b < B ∧ w.cell? ⟨b, off + k * 5, none⟩ = some (.int .u8 x.k) ∧ w.cell? ⟨b, off + k * 5 + 1, none⟩ = some (.int .i64 x.a) ∧ w.cell? ⟨b, off + k * 5 + 2, none⟩ = some (.int .i64 x.n) ∧
      w.cell? ⟨b, off + k * 5 + 3, none⟩ = some (.slice x.B x.m x.e) ∧ w.cell? ⟨b, off + k * 5 + 4, none⟩ = some (.slice x.P x.q x.r) := by
  have key : ∀ j u, x.cells[j]? = some u → (acells l)[k * 5 + j]? = some u := fun j u hu => flat_get Ac.cells 5 Ac.cells_length l k j x u hx hu
  have hne : acells l ≠ [] := by
    intro e
    have := key 0 _ rfl
    rw [e] at this
    simp at this
  obtain ⟨b, off, e, hlt, hc⟩ := h hne
  exact ⟨b, off, e, hlt, hc _ _ (key 0 _ rfl), hc _ _ (key 1 _ rfl), hc _ _ (key 2 _ rfl), hc _ _ (key 3 _ rfl), hc _ _ (key 4 _ rfl)⟩

/-- 64 bytes made of bytes, or the bytes. -/
def page0 (n : Int) (b : List Int) : List Int := if n = 7 then b.take 100 else (List.range 64).map (fun i => b[i % b.length]?.getD 0)
/-- A call and what it gives: its number, its bytes. -/
def doF (f : Fl) (k a n : Int) (b p : List Int) : Fl × Int × List Int :=
  if k % 6 < 2 then ((progF f a (page0 n b)).1, (progF f a (page0 n b)).2, []) else if k % 6 = 2 then ((eraseF f a).1, (eraseF f a).2, [])
  else if k % 6 = 3 then (f, (readF f a).2, (readF f a).1) else if k % 6 = 4 then (fuseF f n p, 0, []) else (startF f, 0, [])
def Ac.does (x : Ac) (f : Fl) : Fl × Int × List Int := doF f x.k x.a x.n x.b x.p

/-- The sum of the lengths. -/
def sumA : List Ac → Nat
  | [] => 0
  | x :: l => 10 + min x.m 10000 + min x.q 10000 + sumA l
theorem sumA_append (a b : List Ac) : sumA (a ++ b) = sumA a + sumA b := by
  induction a with
  | nil => simp [sumA]
  | cons x a ih => simp only [List.cons_append, sumA, ih]; omega
theorem sumA_le (l : List Ac) : sumA l ≤ 20010 * l.length := by
  induction l with
  | nil => simp [sumA]
  | cons x a ih => simp only [sumA, List.length_cons]; omega
theorem sumA_mem {l : List Ac} {x : Ac} (h : x ∈ l) : min x.m 10000 + min x.q 10000 ≤ sumA l := by
  induction l with
  | nil => simp at h
  | cons y a ih =>
    simp only [sumA]
    rcases List.mem_cons.1 h with rfl | h
    · omega
    · have := ih h
      omega
def largeA (l : List Ac) : Bool := decide (200 < l.length ∨ 20000 < sumA l)
end Go.Proofs.Ytfeceamhlphelaa
