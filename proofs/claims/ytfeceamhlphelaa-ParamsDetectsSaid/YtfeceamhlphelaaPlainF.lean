/-
  A flash memory as a value, and its calls. No program in sight.
-/
import Derived.Test.YtfeceamhlphelaaMem
import Derived.Test.YtfeceamhlphelaaBitsA
namespace Go.Proofs.Ytfeceamhlphelaa
open Go.RowKit

/-- A flash memory: pages of a block, its bytes, the wear, whether there is no power, the fuse, the picks. -/
structure Fl where
  pg : Nat
  img : List Int
  wear : List Int
  down : Bool
  fuse : Int
  picks : List Int
  deriving Inhabited

structure Fl.ok (f : Fl) : Prop where
  p1 : 1 ≤ f.pg
  p2 : f.pg ≤ 16
  b1 : 1 ≤ f.wear.length
  b2 : f.wear.length ≤ 64
  len : f.img.length = f.wear.length * f.pg * 64
  byt : Bytes f.img
  pby : Bytes f.picks
  fu1 : -1 ≤ f.fuse
  fu2 : f.fuse < 9223372036854775808

def orB (x y : Int) : Int := bits .or .u8 x y
def pickF (p : List Int) (i : Nat) : Int := p[i]?.getD 0
/-- Bytes with picks on top. -/
def torn (b p : List Int) : List Int := b.mapIdx (fun i x => orB x (pickF p i))
def lay (img : List Int) (at' : Nat) (b : List Int) : List Int := img.take at' ++ b ++ img.drop (at' + b.length)

def atF (f : Fl) (page : Int) : Int := if f.down = true then 20 else if page < 0 ∨ (f.wear.length * f.pg : Nat) ≤ page then 10 else 0
def pageF (f : Fl) (p : Nat) : List Int := (f.img.drop (64 * p)).take 64
def readF (f : Fl) (page : Int) : List Int × Int := if atF f page ≠ 0 then ([], atF f page) else (pageF f page.toNat, 0)
def cutF (f : Fl) : Fl × Bool := if f.fuse = 0 then ({ f with down := true }, true) else if 0 < f.fuse then ({ f with fuse := f.fuse - 1 }, false) else (f, false)
def blankF (b : List Int) : Bool := b.all (fun x => decide (x = 255))
def progF (f : Fl) (page : Int) (b : List Int) : Fl × Int :=
  if atF f page ≠ 0 then (f, atF f page) else if b.length ≠ 64 then (f, 11) else if blankF (pageF f page.toNat) = false then (f, 12) else
  if (cutF f).2 = true then ({ (cutF f).1 with img := lay f.img (64 * page.toNat) (torn b f.picks) }, 20) else ({ (cutF f).1 with img := lay f.img (64 * page.toNat) b }, 0)
def bumpF (l : List Int) (i : Nat) : List Int := l.set i (wrap64 (l[i]?.getD 0 + 1))
def eraseF (f : Fl) (block : Int) : Fl × Int :=
  if f.down = true then (f, 20) else if block < 0 ∨ (f.wear.length : Nat) ≤ block then (f, 10) else
  if (cutF f).2 = true then ({ (cutF f).1 with img := lay f.img (64 * f.pg * block.toNat) (torn ((f.img.drop (64 * f.pg * block.toNat)).take (64 * f.pg)) f.picks), wear := bumpF f.wear block.toNat }, 20)
  else ({ (cutF f).1 with img := lay f.img (64 * f.pg * block.toNat) (List.replicate (64 * f.pg) 255), wear := bumpF f.wear block.toNat }, 0)
def fuseF (f : Fl) (n : Int) (p : List Int) : Fl := { f with fuse := max n (-1), picks := p }
def startF (f : Fl) : Fl := if f.down = true then { f with down := false, fuse := -1, picks := [] } else f
def newF (b p : Nat) : Fl := ⟨p, List.replicate (b * p * 64) 255, List.replicate b 0, false, -1, []⟩

theorem lay_length (img : List Int) (a : Nat) (b : List Int) (h : a + b.length ≤ img.length) : (lay img a b).length = img.length := by
  unfold lay
  rw [List.length_append, List.length_append, List.length_take, List.length_drop]
  omega
theorem lay_get (img : List Int) (a : Nat) (b : List Int) (h : a + b.length ≤ img.length) (i : Nat) : (lay img a b)[i]? = if a ≤ i ∧ i < a + b.length then b[i - a]? else img[i]? := by
  unfold lay
  by_cases h1 : i < a
  · rw [if_neg (by omega), List.getElem?_append_left (by rw [List.length_append, List.length_take]; omega), List.getElem?_append_left (by rw [List.length_take]; omega), List.getElem?_take, if_pos h1]
  · by_cases h2 : i < a + b.length
    · rw [if_pos (by omega), List.getElem?_append_left (by rw [List.length_append, List.length_take]; omega), List.getElem?_append_right (by rw [List.length_take]; omega), List.length_take]
      rw [show i - min a img.length = i - a by omega]
    · rw [if_neg (by omega), List.getElem?_append_right (by rw [List.length_append, List.length_take]; omega), List.length_append, List.length_take, List.getElem?_drop]
      congr 1
      omega
theorem torn_length (b p : List Int) : (torn b p).length = b.length := by simp [torn]
theorem torn_get (b p : List Int) (i : Nat) : (torn b p)[i]? = b[i]?.map (fun x => orB x (pickF p i)) := by simp [torn]

theorem pickF_byte {p : List Int} (h : Bytes p) (i : Nat) : 0 ≤ pickF p i ∧ pickF p i < 256 := by
  unfold pickF
  cases e : p[i]? with
  | none => simp
  | some x => exact h x (List.mem_of_getElem? e)
theorem orB_byte {x y : Int} (hx : 0 ≤ x ∧ x < 256) (hy : 0 ≤ y ∧ y < 256) : 0 ≤ orB x y ∧ orB x y < 256 := by
  obtain ⟨X, rfl⟩ := Int.eq_ofNat_of_zero_le hx.1
  obtain ⟨Y, rfl⟩ := Int.eq_ofNat_of_zero_le hy.1
  unfold orB
  rw [u8_or_nat X Y (by omega) (by omega)]
  have : X ||| Y < 2 ^ 8 := Nat.or_lt_two_pow (by omega) (by omega)
  omega
theorem torn_bytes {b p : List Int} (hb : Bytes b) (hp : Bytes p) : Bytes (torn b p) := by
  intro x hx
  obtain ⟨i, hi⟩ := List.mem_iff_getElem?.1 hx
  rw [torn_get] at hi
  cases e : b[i]? with
  | none => rw [e] at hi; simp at hi
  | some y =>
    rw [e] at hi
    simp at hi
    subst hi
    exact orB_byte (hb y (List.mem_of_getElem? e)) (pickF_byte hp i)
theorem lay_bytes {img b : List Int} {a : Nat} (hi : Bytes img) (hb : Bytes b) : Bytes (lay img a b) := by
  intro x hx
  unfold lay at hx
  rcases List.mem_append.1 hx with h | h
  · rcases List.mem_append.1 h with h | h
    · exact hi x (List.mem_of_mem_take h)
    · exact hb x h
  · exact hi x (List.mem_of_mem_drop h)

theorem cutF_same (f : Fl) : (cutF f).1.pg = f.pg ∧ (cutF f).1.img = f.img ∧ (cutF f).1.wear = f.wear ∧ (cutF f).1.picks = f.picks := by
  unfold cutF
  split
  · exact ⟨rfl, rfl, rfl, rfl⟩
  · split <;> exact ⟨rfl, rfl, rfl, rfl⟩
theorem cutF_fuse {f : Fl} (h1 : -1 ≤ f.fuse) (h2 : f.fuse < 9223372036854775808) : -1 ≤ (cutF f).1.fuse ∧ (cutF f).1.fuse < 9223372036854775808 := by
  unfold cutF
  split
  · exact ⟨h1, h2⟩
  · split
    · simp only; omega
    · exact ⟨h1, h2⟩
theorem bumpF_length (l : List Int) (i : Nat) : (bumpF l i).length = l.length := by simp [bumpF]

theorem atF_zero {f : Fl} {page : Int} (h : atF f page = 0) : f.down = false ∧ 0 ≤ page ∧ page < (f.wear.length * f.pg : Nat) := by
  unfold atF at h
  split at h
  · simp at h
  · split at h
    · simp at h
    · rename_i h1 h2
      exact ⟨by simpa using h1, by omega, by omega⟩

theorem progF_ok {f : Fl} {page : Int} {b : List Int} (h : f.ok) (hb : Bytes b) : (progF f page b).1.ok := by
  unfold progF
  split
  · exact h
  rename_i h0
  obtain ⟨_, a1, a2⟩ := atF_zero (by omega : atF f page = 0)
  split
  · exact h
  rename_i h1
  split
  · exact h
  obtain ⟨e1, e2, e3, e4⟩ := cutF_same f
  obtain ⟨g1, g2⟩ := cutF_fuse h.fu1 h.fu2
  have hl : 64 * page.toNat + 64 ≤ f.img.length := by
    rw [h.len]
    have : page.toNat + 1 ≤ f.wear.length * f.pg := by omega
    omega
  split
  · refine ⟨by simpa [e1] using h.p1, by simpa [e1] using h.p2, by simpa [e3] using h.b1, by simpa [e3] using h.b2, ?_, ?_, by simpa [e4] using h.pby, g1, g2⟩
    · simp only [e1, e3]
      rw [lay_length _ _ _ (by rw [torn_length]; omega), h.len]
    · exact lay_bytes h.byt (torn_bytes hb h.pby)
  · refine ⟨by simpa [e1] using h.p1, by simpa [e1] using h.p2, by simpa [e3] using h.b1, by simpa [e3] using h.b2, ?_, ?_, by simpa [e4] using h.pby, g1, g2⟩
    · simp only [e1, e3]
      rw [lay_length _ _ _ (by omega), h.len]
    · exact lay_bytes h.byt hb

theorem eraseF_ok {f : Fl} {block : Int} (h : f.ok) : (eraseF f block).1.ok := by
  unfold eraseF
  split
  · exact h
  split
  · exact h
  rename_i h1 h2
  obtain ⟨e1, e2, e3, e4⟩ := cutF_same f
  obtain ⟨g1, g2⟩ := cutF_fuse h.fu1 h.fu2
  have hb : block.toNat + 1 ≤ f.wear.length := by omega
  have hl : 64 * f.pg * block.toNat + 64 * f.pg ≤ f.img.length := by
    rw [h.len]
    have := Nat.mul_le_mul_right (64 * f.pg) hb
    rw [Nat.add_mul, Nat.one_mul] at this
    rw [Nat.mul_comm (64 * f.pg), Nat.mul_assoc f.wear.length, Nat.mul_comm f.pg 64]
    exact this
  split
  · refine ⟨by simpa [e1] using h.p1, by simpa [e1] using h.p2, by simpa [bumpF_length] using h.b1, by simpa [bumpF_length] using h.b2, ?_, ?_, by simpa [e4] using h.pby, g1, g2⟩
    · simp only [e1, bumpF_length]
      rw [lay_length _ _ _ (by rw [torn_length, List.length_take, List.length_drop]; omega), h.len]
    · exact lay_bytes h.byt (torn_bytes (fun x hx => h.byt x (List.mem_of_mem_drop (List.mem_of_mem_take hx))) h.pby)
  · refine ⟨by simpa [e1] using h.p1, by simpa [e1] using h.p2, by simpa [bumpF_length] using h.b1, by simpa [bumpF_length] using h.b2, ?_, ?_, by simpa [e4] using h.pby, g1, g2⟩
    · simp only [e1, bumpF_length]
      rw [lay_length _ _ _ (by rw [List.length_replicate]; omega), h.len]
    · refine lay_bytes h.byt (fun x hx => ?_)
      rw [List.mem_replicate] at hx
      omega

theorem fuseF_ok {f : Fl} {n : Int} {p : List Int} (h : f.ok) (hp : Bytes p) (hn : n < 9223372036854775808) : (fuseF f n p).ok :=
  ⟨h.p1, h.p2, h.b1, h.b2, h.len, h.byt, hp, by simp only [fuseF]; omega, by simp only [fuseF]; omega⟩
theorem startF_ok {f : Fl} (h : f.ok) : (startF f).ok := by
  unfold startF
  split
  · exact ⟨h.p1, h.p2, h.b1, h.b2, h.len, h.byt, by intro x hx; simp at hx, by simp only; omega, by simp only; omega⟩
  · exact h
theorem newF_ok {b p : Nat} (h1 : 1 ≤ b) (h2 : b ≤ 64) (h3 : 1 ≤ p) (h4 : p ≤ 16) : (newF b p).ok :=
  ⟨h3, h4, by simpa [newF] using h1, by simpa [newF] using h2, by simp [newF], (by
    intro x hx
    simp only [newF, List.mem_replicate] at hx
    omega), by intro x hx; simp [newF] at hx, by simp [newF], by simp [newF]⟩
end Go.Proofs.Ytfeceamhlphelaa
