
/-
  What a dictionary answers. No program in sight.
-/
import Derived.Test.YtjdknddnanopaaaBPlain2
namespace Go.Proofs.Ytjdknddnanopaaa.Bus

/-- Where the first object with a key lies. -/
def locO (l : List Ob) (i s : Int) : Option Nat := l.findIdx? (fun x => decide (x.i = i ∧ x.s = s))
/-- Is there an object with this index? -/
def hasO (l : List Ob) (i : Int) : Bool := l.any (fun x => decide (x.i = i))
/-- The error of a key that is not there. -/
def ferr (l : List Ob) (i : Int) : Int := if hasO l i = true then 10 else 5

theorem hasO_iff {l : List Ob} {i : Int} : hasO l i = true ↔ ∃ x ∈ l, x.i = i := by simp [hasO]

theorem locO_some {l : List Ob} {i s : Int} {p : Nat} (h : locO l i s = some p) : ∃ x, l[p]? = some x ∧ x.i = i ∧ x.s = s := by
  unfold locO at h
  rw [List.findIdx?_eq_some_iff_getElem] at h
  obtain ⟨hp, hx, _⟩ := h
  exact ⟨l[p], List.getElem?_eq_getElem hp, (by simpa using hx : _ ∧ _).1, (by simpa using hx : _ ∧ _).2⟩
theorem locO_lt {l : List Ob} {i s : Int} {p : Nat} (h : locO l i s = some p) : p < l.length := by
  obtain ⟨x, hx, _⟩ := locO_some h
  exact (List.getElem?_eq_some_iff.1 hx).1
theorem locO_none {l : List Ob} {i s : Int} (h : locO l i s = none) : ∀ x ∈ l, ¬ (x.i = i ∧ x.s = s) := by
  unfold locO at h
  rw [List.findIdx?_eq_none_iff] at h
  intro x hx
  simpa using h x hx

/-- The two maps' functions. -/
def placeO (l : List Ob) (i s : Int) : Option Int := (locO l i s).map (fun p => (p : Int))

theorem place_all {l : List Ob} (h : Fine l) : placeTo l l.length = placeO l := by
  funext i s
  unfold placeO
  cases e : placeTo l l.length i s with
  | none =>
    cases e2 : locO l i s with
    | none => rfl
    | some p =>
      obtain ⟨x, hx, h1, h2⟩ := locO_some e2
      exact absurd ⟨h1, h2⟩ (placeTo_none e p x (locO_lt e2) hx)
  | some p =>
    obtain ⟨j, x, rfl, hj, hx, h1, h2⟩ := placeTo_some (Nat.le_refl _) e
    cases e2 : locO l i s with
    | none => exact absurd ⟨h1, h2⟩ (locO_none e2 x (List.mem_of_getElem? hx))
    | some q =>
      obtain ⟨y, hy, g1, g2⟩ := locO_some e2
      have := h.inj hx hy (by rw [h1, g1]) (by rw [h2, g2])
      subst this
      rfl

theorem known_all {l : List Ob} : knownTo l l.length = hasO l := by
  funext i
  rw [Bool.eq_iff_iff, knownTo_iff (Nat.le_refl _), hasO_iff]
  constructor
  · rintro ⟨j, x, _, b, c⟩; exact ⟨x, List.mem_of_getElem? b, c⟩
  · rintro ⟨x, b, c⟩
    obtain ⟨j, hj⟩ := List.getElem?_of_mem b
    exact ⟨j, x, (List.getElem?_eq_some_iff.1 hj).1, hj, c⟩

def Ob.with (x : Ob) (v : Int) : Ob := { x with v := v }

theorem locO_set {l : List Ob} {p : Nat} {x : Ob} (hx : l[p]? = some x) (v : Int) : locO (l.set p (x.with v)) = locO l := by
  funext i s
  unfold locO
  have e : (l.set p (x.with v)).map (fun x => (x.i, x.s)) = l.map (fun x => (x.i, x.s)) := by
    rw [List.map_set]
    apply List.ext_getElem?
    intro j
    rw [List.getElem?_set]
    split
    · rename_i h; subst h
      split
      · simp [hx, Ob.with]
      · rw [List.getElem?_eq_none (by omega)]
    · rfl
  have g : ∀ (r : List Ob), r.findIdx? (fun x => decide (x.i = i ∧ x.s = s)) = (r.map (fun x => (x.i, x.s))).findIdx? (fun y => decide (y.1 = i ∧ y.2 = s)) := by
    intro r
    rw [List.findIdx?_map]
    rfl
  rw [g, g, e]

theorem hasO_set {l : List Ob} {p : Nat} {x : Ob} (hx : l[p]? = some x) (v : Int) : hasO (l.set p (x.with v)) = hasO l := by
  funext i
  unfold hasO
  have e : (l.set p (x.with v)).map (fun x => x.i) = l.map (fun x => x.i) := by
    rw [List.map_set]
    apply List.ext_getElem?
    intro j
    rw [List.getElem?_set]
    split
    · rename_i h; subst h
      split
      · simp [hx, Ob.with]
      · rw [List.getElem?_eq_none (by omega)]
    · rfl
  have g : ∀ (r : List Ob), r.any (fun x => decide (x.i = i)) = (r.map (fun x => x.i)).any (fun y => decide (y = i)) := by
    intro r
    rw [List.any_map]
    rfl
  rw [g, g, e]

/-- The value of an object, or the error. -/
def getO (l : List Ob) (i s : Int) : Int × Int := match locO l i s with
  | some p => ((l[p]?.getD default).v, 0)
  | none => (0, ferr l i)

/-- The objects with a new value, or the error. -/
def setO (l : List Ob) (i s v : Int) : List Ob × Int := match locO l i s with
  | some p => if v < (l[p]?.getD default).lo ∨ (l[p]?.getD default).hi < v then (l, 3) else (l.set p ((l[p]?.getD default).with v), 0)
  | none => (l, ferr l i)

/-- Bytes, the least first, as a number: the first k of them. -/
def leTo (b : List Int) : Nat → Int
  | 0 => 0
  | k + 1 => leTo b k + (b[k]?.getD 0) * 256 ^ k

def numO (t : Int) (b : List Int) : Int × Int :=
  if (kindOf t).n = 0 then (0, 7) else if b.length ≠ (kindOf t).n then (0, 11) else
  if t = 0 ∧ 1 < leTo b b.length then (0, 2) else if (kindOf t).lo < 0 ∧ -(kindOf t).lo ≤ leTo b b.length then (leTo b b.length + 2 * (kindOf t).lo, 0) else (leTo b b.length, 0)

/-- The first k bytes of a number. -/
def bytesTo (v : Int) (k : Nat) : List Int := (List.range k).map (fun i => v / 2 ^ (8 * i) % 256)

def bytesO (t v : Int) : List Int × Int :=
  if (kindOf t).n = 0 then ([], 7) else if v < (kindOf t).lo ∨ (kindOf t).hi < v then ([], 3) else (bytesTo v (kindOf t).n, 0)

def readO (l : List Ob) (i s : Int) : List Int × Int := match locO l i s with
  | some p => if (l[p]?.getD default).a = 2 then ([], 21) else bytesO (l[p]?.getD default).t (l[p]?.getD default).v
  | none => ([], ferr l i)

def writeO (l : List Ob) (i s : Int) (b : List Int) (en : Bool) : List Ob × Int := match locO l i s with
  | some p => if (l[p]?.getD default).a = 0 then (l, 21) else if ((l[p]?.getD default).hd && en) = true then (l, 12) else
    if (numO (l[p]?.getD default).t b).2 ≠ 0 then (l, (numO (l[p]?.getD default).t b).2) else setO l i s (numO (l[p]?.getD default).t b).1
  | none => (l, ferr l i)

theorem getD_of {l : List Ob} {p : Nat} {x : Ob} (h : l[p]? = some x) : l[p]?.getD default = x := by rw [h]; rfl

theorem kind_cases (t : Int) : (kindOf t = ⟨1, 0, 1⟩ ∧ t = 0) ∨ (kindOf t = ⟨1, 0, 255⟩ ∧ t = 1) ∨ (kindOf t = ⟨1, -128, 127⟩ ∧ t = 2) ∨ (kindOf t = ⟨2, 0, 65535⟩ ∧ t = 3) ∨ (kindOf t = ⟨2, -32768, 32767⟩ ∧ t = 4) ∨
    (kindOf t = ⟨4, 0, 4294967295⟩ ∧ t = 5) ∨ (kindOf t = ⟨4, -2147483648, 2147483647⟩ ∧ t = 6) ∨ (kindOf t = ⟨0, 0, 0⟩ ∧ ¬ (0 ≤ t ∧ t ≤ 6)) := by
  unfold kindOf
  repeat' split
  all_goals simp_all
  omega

theorem bytesTo_length (v : Int) (k : Nat) : (bytesTo v k).length = k := by simp [bytesTo]
theorem bytesTo_succ (v : Int) (k : Nat) : bytesTo v (k + 1) = bytesTo v k ++ [v / 2 ^ (8 * k) % 256] := by simp [bytesTo, List.range_succ]
theorem bytesTo_range (v : Int) (k : Nat) : ∀ x ∈ bytesTo v k, 0 ≤ x ∧ x < 256 := by
  intro x hx
  simp only [bytesTo, List.mem_map] at hx
  obtain ⟨i, _, rfl⟩ := hx
  omega

theorem leTo_range {b : List Int} (h : ∀ x ∈ b, 0 ≤ x ∧ x < 256) : ∀ k, 0 ≤ leTo b k ∧ leTo b k < 256 ^ k
  | 0 => by simp [leTo]
  | k + 1 => by
    have ih := leTo_range h k
    rw [leTo, Int.pow_succ]
    have hx : 0 ≤ b[k]?.getD 0 ∧ b[k]?.getD 0 < 256 := by
      cases e : b[k]? with
      | none => simp
      | some x => exact h x (List.mem_of_getElem? e)
    have hp : (0 : Int) < 256 ^ k := Int.pow_pos (by omega)
    have h1 : 0 ≤ (b[k]?.getD 0) * 256 ^ k := Int.mul_nonneg hx.1 (by omega)
    have h2 : (b[k]?.getD 0) * 256 ^ k ≤ 255 * 256 ^ k := Int.mul_le_mul_of_nonneg_right (by omega) (by omega)
    omega
end Go.Proofs.Ytjdknddnanopaaa.Bus
