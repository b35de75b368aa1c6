
/-
  A store that lives, and one that the power has left: what each call leaves. No program in sight.
-/
import Derived.Test.YtjdknddnanopaaaPlainV
namespace Go.Proofs.Ytjdknddnanopaaa
open Go.RowKit
set_option linter.unusedVariables false

theorem cutF_cases (f : Fl) : ((cutF f).2 = true ∧ (cutF f).1.down = true) ∨ ((cutF f).2 = false ∧ (cutF f).1.down = f.down) := by
  unfold cutF
  split
  · exact .inl ⟨rfl, rfl⟩
  · split
    · exact .inr ⟨rfl, rfl⟩
    · exact .inr ⟨rfl, rfl⟩
theorem page_img {f : Fl} (hf : f.ok) {P : Nat} (hP : P < f.wear.length * f.pg) : 64 * P + 64 * 1 ≤ f.img.length := by rw [hf.len]; omega

/-- What a page's programming leaves. -/
structure ProgP (f g : Fl) (P : Nat) (b : List Int) (c : Int) : Prop where
  pg : g.pg = f.pg
  wear : g.wear = f.wear
  ok : (c = 0 ∧ g.down = false ∧ ∀ x, pageF g x = if x = P then b else pageF f x) ∨ (c = 20 ∧ g.down = true ∧ ∀ x, pageF g x = if x = P then torn b f.picks else pageF f x)
theorem prog_pages {f : Fl} (hf : f.ok) (hd : f.down = false) {P : Nat} (hP : P < f.wear.length * f.pg) {b : List Int} (hb : b.length = 64) (hbl : pageF f P = blankP) :
    ProgP f (progF f (P : Int) b).1 P b (progF f (P : Int) b).2 := by
  have h0 : atF f (P : Int) = 0 := by unfold atF; rw [hd, if_neg (by decide), if_neg (by omega)]
  have hbk : blankF (pageF f P) = true := (blankF_blank (by rw [hbl, blankP_len])).2 hbl
  obtain ⟨e1, e2, e3, e4⟩ := cutF_same f
  have himg := page_img hf hP
  have key : progF f (P : Int) b = if (cutF f).2 = true then ({ (cutF f).1 with img := lay f.img (64 * P) (torn b f.picks) }, 20) else ({ (cutF f).1 with img := lay f.img (64 * P) b }, 0) := by
    unfold progF
    rw [if_neg (by rw [h0]; decide), if_neg (by omega), Int.toNat_natCast, if_neg (by rw [hbk]; decide)]
  rw [key]
  rcases cutF_cases f with ⟨c1, c2⟩ | ⟨c1, c2⟩
  · rw [c1, if_pos rfl]
    refine ⟨e1, e3, .inr ⟨rfl, c2, fun x => ?_⟩⟩
    rw [pageF_layN (f := f) (p := P) (m := 1) rfl (by rw [torn_length, hb]) himg]
    by_cases hx : x = P
    · subst hx
      rw [if_pos (by omega), if_pos rfl, Nat.sub_self, Nat.mul_zero, List.drop_zero, List.take_of_length_le (by rw [torn_length]; omega)]
    · rw [if_neg (by omega), if_neg hx]
  · rw [c1, if_neg (by decide)]
    refine ⟨e1, e3, .inl ⟨rfl, c2.trans hd, fun x => ?_⟩⟩
    rw [pageF_layN (f := f) (p := P) (m := 1) rfl (by rw [hb]) himg]
    by_cases hx : x = P
    · subst hx
      rw [if_pos (by omega), if_pos rfl, Nat.sub_self, Nat.mul_zero, List.drop_zero, List.take_of_length_le (by omega)]
    · rw [if_neg (by omega), if_neg hx]

structure EraseP (f g : Fl) (B : Nat) (c : Int) : Prop where
  pg : g.pg = f.pg
  wear : g.wear = bumpF f.wear B
  ok : (c = 0 ∧ g.down = false ∧ ∀ x, pageF g x = if B * f.pg ≤ x ∧ x < B * f.pg + f.pg then blankP else pageF f x) ∨
    (c = 20 ∧ g.down = true ∧ ∀ x, pageF g x = if B * f.pg ≤ x ∧ x < B * f.pg + f.pg then torn (pageF f x) (f.picks.drop (64 * (x - B * f.pg))) else pageF f x)
theorem erase_pages {f : Fl} (hf : f.ok) (hd : f.down = false) {B : Nat} (hB : B < f.wear.length) : EraseP f (eraseF f (B : Int)).1 B (eraseF f (B : Int)).2 := by
  obtain ⟨e1, e2, e3, e4⟩ := cutF_same f
  have hbb : B * f.pg + f.pg ≤ f.wear.length * f.pg := by
    have := Nat.mul_le_mul_right f.pg (show B + 1 ≤ f.wear.length by omega)
    rw [Nat.add_mul, Nat.one_mul] at this
    exact this
  have himg : 64 * (B * f.pg) + 64 * f.pg ≤ f.img.length := by rw [hf.len]; omega
  have hcomm : 64 * f.pg * B = 64 * (B * f.pg) := by rw [Nat.mul_assoc, Nat.mul_comm f.pg B]
  have key : eraseF f (B : Int) = if (cutF f).2 = true then ({ (cutF f).1 with img := lay f.img (64 * (B * f.pg)) (torn ((f.img.drop (64 * (B * f.pg))).take (64 * f.pg)) f.picks), wear := bumpF f.wear B }, 20)
      else ({ (cutF f).1 with img := lay f.img (64 * (B * f.pg)) (List.replicate (64 * f.pg) 255), wear := bumpF f.wear B }, 0) := by
    unfold eraseF
    rw [if_neg (by rw [hd]; decide), if_neg (by omega), Int.toNat_natCast, hcomm]
  rw [key]
  have hlen : ((f.img.drop (64 * (B * f.pg))).take (64 * f.pg)).length = 64 * f.pg := by rw [List.length_take, List.length_drop]; omega
  rcases cutF_cases f with ⟨c1, c2⟩ | ⟨c1, c2⟩
  · rw [c1, if_pos rfl]
    refine ⟨e1, rfl, .inr ⟨rfl, c2, fun x => ?_⟩⟩
    rw [pageF_layN (f := f) (p := B * f.pg) (m := f.pg) rfl (by rw [torn_length, hlen]) himg]
    by_cases hx : B * f.pg ≤ x ∧ x < B * f.pg + f.pg
    · rw [if_pos hx, if_pos hx, torn_drop, torn_take]
      congr 1
      unfold pageF
      rw [List.drop_take, List.drop_drop, List.take_take]
      congr 1
      · omega
      · congr 1
        omega
    · rw [if_neg hx, if_neg hx]
  · rw [c1, if_neg (by decide)]
    refine ⟨e1, rfl, .inl ⟨rfl, c2.trans hd, fun x => ?_⟩⟩
    rw [pageF_layN (f := f) (p := B * f.pg) (m := f.pg) rfl (by rw [List.length_replicate]) himg]
    by_cases hx : B * f.pg ≤ x ∧ x < B * f.pg + f.pg
    · rw [if_pos hx, if_pos hx, List.drop_replicate, List.take_replicate]
      unfold blankP
      congr 1
      omega
    · rw [if_neg hx, if_neg hx]

theorem blankN_iff {f : Fl} (hf : f.ok) {a n : Nat} (h : a + n ≤ f.wear.length * f.pg) : blankN f a n = true ↔ ∀ i, i < n → pageF f (a + i) = blankP := by
  unfold blankN
  rw [List.all_eq_true]
  constructor
  · intro hb i hi
    exact (blankF_blank (pageF_len hf (by omega))).1 (hb i (List.mem_range.2 hi))
  · intro hb i hi
    have hi' := List.mem_range.1 hi
    exact (blankF_blank (pageF_len hf (by omega))).2 (hb i hi')

theorem split_mul {p a a' r r' : Nat} (h : a * p + r = a' * p + r') (hr : r < p) (hr' : r' < p) : a = a' ∧ r = r' := by
  have h1 : (a * p + r) / p = a := by rw [Nat.mul_comm, Nat.mul_add_div (by omega), Nat.div_eq_of_lt hr]; omega
  have h2 : (a' * p + r') / p = a' := by rw [Nat.mul_comm, Nat.mul_add_div (by omega), Nat.div_eq_of_lt hr']; omega
  have e : a = a' := by rw [← h1, ← h2, h]
  subst e
  exact ⟨rfl, by omega⟩
/-- A page lies in one slot. -/
theorem StOk.slot_inj {f : Fl} {s : St} (h : StOk f s) {b j i b' j' i' : Nat} (hj : j < slotsS s f) (hj' : j' < slotsS s f) (hi : i < s.k) (hi' : i' < s.k) (e : pageS s f b j + i = pageS s f b' j' + i') : b = b' ∧ j = j' ∧ i = i' := by
  have h1 := h.slot_in hj
  have h2 := h.slot_in hj'
  unfold pageS at e
  rw [Nat.add_assoc, Nat.add_assoc] at e
  obtain ⟨e1, e2⟩ := split_mul e (by omega) (by omega)
  obtain ⟨e3, e4⟩ := split_mul e2 hi hi'
  exact ⟨by omega, e3, e4⟩
/-- A page of a slot lies in its block. -/
theorem StOk.slot_block {f : Fl} {s : St} (h : StOk f s) {b j i B : Nat} (hj : j < slotsS s f) (hi : i < s.k) : (B * f.pg ≤ pageS s f b j + i ∧ pageS s f b j + i < B * f.pg + f.pg) ↔ B = s.first + b := by
  have h1 := h.slot_in hj
  unfold pageS
  constructor
  · intro ⟨a1, a2⟩
    obtain ⟨r, hr⟩ : ∃ r, (s.first + b) * f.pg + j * s.k + i = B * f.pg + r := ⟨(s.first + b) * f.pg + j * s.k + i - B * f.pg, by omega⟩
    rw [Nat.add_assoc] at hr
    have := split_mul hr (by omega) (by omega)
    exact this.1.symm
  · rintro rfl
    omega
theorem StOk.in_region {f : Fl} {s : St} (h : StOk f s) {b j i : Nat} (hb : b < s.blocks) (hj : j < slotsS s f) (hi : i < s.k) : s.first * f.pg ≤ pageS s f b j + i ∧ pageS s f b j + i < (s.first + s.blocks) * f.pg := by
  have h1 := h.slot_in hj
  have h2 : (s.first + b + 1) * f.pg ≤ (s.first + s.blocks) * f.pg := Nat.mul_le_mul_right _ (by omega)
  have h3 : s.first * f.pg ≤ (s.first + b) * f.pg := Nat.mul_le_mul_right _ (by omega)
  rw [Nat.add_mul (s.first + b), Nat.one_mul] at h2
  unfold pageS
  omega

/-- Legal values. -/
def Lg (sp : List Par) (v : List Int) : Prop := legal sp v = v
theorem legalP_idem {p : Par} (h : badP p = false) (x : Int) : legalP p (legalP p x) = legalP p x := by
  unfold badP at h
  rw [decide_eq_false_iff_not] at h
  unfold legalP
  by_cases hx : inPar p x = true
  · rw [if_pos hx, if_pos hx]
  · rw [if_neg hx]
    have : inPar p p.df = true := by unfold inPar; rw [decide_eq_true_eq]; omega
    rw [if_pos this]
theorem legal_idem {sp : List Par} (h : sp.any badP = false) (v : List Int) : Lg sp (legal sp v) := by
  unfold Lg
  induction sp generalizing v with
  | nil => rfl
  | cons p sp ih =>
    cases v with
    | nil => rfl
    | cons x v =>
      rw [List.any_cons, Bool.or_eq_false_iff] at h
      show legalP p (legalP p x) :: legal sp (legal sp v) = _
      rw [legalP_idem h.1, ih h.2]
      rfl
theorem Lg.set {sp : List Par} {v : List Int} (h : Lg sp v) {i : Nat} {p : Par} {x : Int} (hp : sp[i]? = some p) (hx : inPar p x = true) : Lg sp (v.set i x) := by
  unfold Lg legal at h ⊢
  apply List.ext_getElem?
  intro j
  rw [List.getElem?_zipWith, List.getElem?_set]
  by_cases e : i = j
  · subst e
    rw [if_pos rfl, hp]
    by_cases hlt : i < v.length
    · rw [if_pos hlt]
      simp [legalP, hx]
    · rw [if_neg hlt]
  · rw [if_neg e]
    have := congrArg (fun l : List Int => l[j]?) h
    simp only [List.getElem?_zipWith] at this
    exact this

def curS (s : St) : Option (Int × Nat × Nat × List Int) := if s.slot = -1 then none else some (s.seq, s.block, s.slot.toNat, s.saved)
/-- The record that is being written. -/
structure Tgt (f : Fl) (s : St) : Prop where
  pgs : s.pages = encP (s.seq + 1) s.values
  vl : s.values.length = s.spec.length
  lg : Lg s.spec s.values
  ne : s.dest = s.block → s.slot < s.toSlot
  nx : s.dest = s.block ∨ s.dest = (s.block + 1) % s.blocks
  er : s.erase = true → s.dest ≠ s.block ∧ s.toSlot = 0 ∧ s.done = 0
  pre : s.erase = false → ∀ i, i < s.k → pageF f (pageS s f s.dest s.toSlot + i) = if i < s.done then pageP (s.seq + 1) s.values i else blankP
structure Live (f : Fl) (s : St) : Prop where
  fok : f.ok
  ok : StOk f s
  up : f.down = false
  br : s.broken = false
  trn : ∀ x, s.first * f.pg ≤ x → x < (s.first + s.blocks) * f.pg → Trn (pageF f x)
  new : Newest f s (curS s)
  q0 : s.slot = -1 → s.seq = 0 ∧ s.block = 0 ∧ s.saved = s.spec.map Par.df
  lgs : Lg s.spec s.saved
  lgt : Lg s.spec s.staged
  tgt : s.busy = true → Tgt f s
structure Dead (f : Fl) (s : St) : Prop where
  fok : f.ok
  ok : StOk f s
  dn : f.down = true
  br : s.broken = true
  bu : s.busy = true
  trn : ∀ x, s.first * f.pg ≤ x → x < (s.first + s.blocks) * f.pg → Trn (pageF f x)
  new : Newest f s (curS s) ∨ (Newest f s (some (s.seq + 1, s.dest, s.toSlot, s.values)) ∧ 1 ≤ s.done)
  lgs : Lg s.spec s.saved
  lgv : Lg s.spec s.values
  q0 : s.slot = -1 → s.block = 0 ∧ s.saved = s.spec.map Par.df

theorem Newest.congr {f g : Fl} {s s' : St} {c : Option (Int × Nat × Nat × List Int)} (h : Newest f s c) (hb : s'.blocks = s.blocks) (hs : s'.spec = s.spec) (hp : g.pg = f.pg) (hr : ∀ b j, b < s.blocks → j < slotsS s f → recS g s' b j = recS f s b j) : Newest g s' c := by
  have ht : slotsS s' g = slotsS s f := by unfold slotsS St.k; rw [hs, hp]
  cases c with
  | none =>
    intro b j h1 h2
    rw [hb] at h1
    rw [ht] at h2
    rw [hr b j h1 h2]
    exact h b j h1 h2
  | some c =>
    obtain ⟨q, b, j, v⟩ := c
    obtain ⟨n1, n2, n3, n4⟩ := h
    refine ⟨by rw [hb]; exact n1, by rw [ht]; exact n2, by rw [hr b j n1 n2]; exact n3, fun b' j' q' v' h1 h2 h3 => ?_⟩
    rw [hb] at h1
    rw [ht] at h2
    rw [hr b' j' h1 h2] at h3
    exact n4 b' j' q' v' h1 h2 h3
/-- Some other records are lost. -/
theorem Newest.less {f g : Fl} {s s' : St} {c : Option (Int × Nat × Nat × List Int)} (h : Newest f s c) (hb : s'.blocks = s.blocks) (hs : s'.spec = s.spec) (hp : g.pg = f.pg)
    (hr : ∀ b j, b < s.blocks → j < slotsS s f → recS g s' b j = recS f s b j ∨ (recS g s' b j = none ∧ ∀ q v, c ≠ some (q, b, j, v))) : Newest g s' c := by
  have ht : slotsS s' g = slotsS s f := by unfold slotsS St.k; rw [hs, hp]
  cases c with
  | none =>
    intro b j h1 h2
    rw [hb] at h1
    rw [ht] at h2
    rcases hr b j h1 h2 with e | ⟨e, _⟩
    · rw [e]; exact h b j h1 h2
    · exact e
  | some c =>
    obtain ⟨q, b, j, v⟩ := c
    obtain ⟨n1, n2, n3, n4⟩ := h
    refine ⟨by rw [hb]; exact n1, by rw [ht]; exact n2, ?_, fun b' j' q' v' h1 h2 h3 => ?_⟩
    · rcases hr b j n1 n2 with e | ⟨_, e⟩
      · rw [e]; exact n3
      · exact absurd rfl (e q v)
    · rw [hb] at h1
      rw [ht] at h2
      rcases hr b' j' h1 h2 with e | ⟨e, _⟩
      · rw [e] at h3; exact n4 b' j' q' v' h1 h2 h3
      · rw [e] at h3; cases h3
/-- All records are older than the next one. -/
theorem Live.older {f : Fl} {s : St} (h : Live f s) {b j : Nat} {q : Int} {v : List Int} (hb : b < s.blocks) (hj : j < slotsS s f) (hr : recS f s b j = some (q, v)) : q < s.seq + 1 := by
  have hn := h.new
  unfold curS at hn
  split at hn
  · rw [hn b j hb hj] at hr; cases hr
  · obtain ⟨n1, n2, n3, n4⟩ := hn
    rcases n4 b j q v hb hj hr with ⟨rfl, rfl⟩ | e
    · rw [n3] at hr
      injection hr with hr
      simp only [Prod.mk.injEq] at hr
      omega
    · omega
theorem Live.cur_ne {f : Fl} {s : St} (h : Live f s) {b j : Nat} (hne : s.block ≠ b ∨ s.slot < j) : ∀ q v, curS s ≠ some (q, b, j, v) := by
  intro q v e
  unfold curS at e
  split at e
  · cases e
  · injection e with e
    simp only [Prod.mk.injEq] at e
    obtain ⟨_, e2, e3, _⟩ := e
    have := h.ok.s1
    omega
end Go.Proofs.Ytjdknddnanopaaa
