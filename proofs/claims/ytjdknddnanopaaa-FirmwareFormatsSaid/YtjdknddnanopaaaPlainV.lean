
/-
  Records in a region of a flash: what an operation leaves of them. No program in sight.
-/
import Derived.Test.YtjdknddnanopaaaMe
namespace Go.Proofs.Ytjdknddnanopaaa
open Go.RowKit
set_option linter.unusedVariables false

theorem pageF_layN {f g : Fl} {p m : Nat} {b : List Int} (hi : g.img = lay f.img (64 * p) b) (hb : b.length = 64 * m) (hl : 64 * p + 64 * m ≤ f.img.length) (x : Nat) :
    pageF g x = if p ≤ x ∧ x < p + m then (b.drop (64 * (x - p))).take 64 else pageF f x := by
  apply List.ext_getElem?
  intro i
  have key : (pageF g x)[i]? = if i < 64 then (if 64 * p ≤ 64 * x + i ∧ 64 * x + i < 64 * p + b.length then b[64 * x + i - 64 * p]? else f.img[64 * x + i]?) else none := by
    unfold pageF
    rw [List.getElem?_take, List.getElem?_drop, hi, lay_get _ _ _ (by omega)]
  rw [key]
  by_cases h64 : i < 64
  · rw [if_pos h64]
    by_cases hx : p ≤ x ∧ x < p + m
    · rw [if_pos (by omega), if_pos hx, List.getElem?_take, if_pos h64, List.getElem?_drop]
      congr 1
      omega
    · rw [if_neg (by omega), if_neg hx]
      unfold pageF
      rw [List.getElem?_take, if_pos h64, List.getElem?_drop]
  · rw [if_neg h64]
    split
    · rw [List.getElem?_take, if_neg h64]
    · unfold pageF
      rw [List.getElem?_take, if_neg h64]

theorem orB_assoc {x a c : Int} (hx : 0 ≤ x ∧ x < 256) (ha : 0 ≤ a ∧ a < 256) (hc : 0 ≤ c ∧ c < 256) : orB (orB x a) c = orB x (orB a c) := by
  obtain ⟨X, rfl⟩ := Int.eq_ofNat_of_zero_le hx.1
  obtain ⟨A, rfl⟩ := Int.eq_ofNat_of_zero_le ha.1
  obtain ⟨C, rfl⟩ := Int.eq_ofNat_of_zero_le hc.1
  have h1 : orB (X : Int) (A : Int) = ((X ||| A : Nat) : Int) := u8_or_nat X A (by omega) (by omega)
  have h2 : orB (A : Int) (C : Int) = ((A ||| C : Nat) : Int) := u8_or_nat A C (by omega) (by omega)
  have l1 : X ||| A < 2 ^ 8 := Nat.or_lt_two_pow (by omega) (by omega)
  have l2 : A ||| C < 2 ^ 8 := Nat.or_lt_two_pow (by omega) (by omega)
  rw [h1, h2]
  unfold orB
  rw [u8_or_nat (X ||| A) C (by omega) (by omega), u8_or_nat X (A ||| C) (by omega) (by omega), Nat.or_assoc]

/-- A page of which bits of a good one have been set. -/
def Trn (p : List Int) : Prop := ∃ b m, goodP b = true ∧ b.length = 64 ∧ Bytes b ∧ Bytes m ∧ p = torn b m
def orL (m n : List Int) : List Int := (List.range 64).map fun i => orB (pickF m i) (pickF n i)
theorem orL_bytes {m n : List Int} (hm : Bytes m) (hn : Bytes n) : Bytes (orL m n) := by
  intro x hx
  unfold orL at hx
  rw [List.mem_map] at hx
  obtain ⟨i, _, rfl⟩ := hx
  exact orB_byte (pickF_byte hm i) (pickF_byte hn i)
theorem torn_torn {b m n : List Int} (hl : b.length = 64) (hb : Bytes b) (hm : Bytes m) (hn : Bytes n) : torn (torn b m) n = torn b (orL m n) := by
  apply List.ext_getElem?
  intro i
  rw [torn_get, torn_get, torn_get]
  cases e : b[i]? with
  | none => rfl
  | some x =>
    have hi : i < 64 := by rw [← hl]; exact (List.getElem?_eq_some_iff.1 e).1
    simp only [Option.map_some]
    congr 1
    have : pickF (orL m n) i = orB (pickF m i) (pickF n i) := by
      unfold orL
      conv => lhs; unfold pickF
      rw [List.getElem?_map, List.getElem?_range hi]
      rfl
    rw [this, orB_assoc (hb x (List.mem_of_getElem? e)) (pickF_byte hm i) (pickF_byte hn i)]
theorem torn_nil {b : List Int} (hb : Bytes b) : torn b [] = b := by
  apply List.ext_getElem?
  intro i
  rw [torn_get]
  cases e : b[i]? with
  | none => rfl
  | some x =>
    simp only [Option.map_some]
    congr 1
    exact orB_zero (hb x (List.mem_of_getElem? e))
theorem Bytes.nil : Bytes [] := fun x hx => by simp at hx
theorem Trn.good {b : List Int} (hg : goodP b = true) (hl : b.length = 64) (hb : Bytes b) : Trn b := ⟨b, [], hg, hl, hb, Bytes.nil, (torn_nil hb).symm⟩
theorem Trn.len {p : List Int} (h : Trn p) : p.length = 64 := by
  obtain ⟨b, m, _, hl, _, _, rfl⟩ := h
  rw [torn_length, hl]
theorem Trn.byt {p : List Int} (h : Trn p) : Bytes p := by
  obtain ⟨b, m, _, hl, hb, hm, rfl⟩ := h
  exact torn_bytes hb hm
theorem Trn.torn {p n : List Int} (h : Trn p) (hn : Bytes n) : Trn (torn p n) := by
  obtain ⟨b, m, hg, hl, hb, hm, rfl⟩ := h
  exact ⟨b, orL m n, hg, hl, hb, orL_bytes hm hn, torn_torn hl hb hm hn⟩
theorem Trn.fix {p n : List Int} (h : Trn p) (hn : Bytes n) (hg : goodP (Ytjdknddnanopaaa.torn p n) = true) : Ytjdknddnanopaaa.torn p n = p := by
  obtain ⟨b, m, hgb, hl, hb, hm, rfl⟩ := h
  rw [torn_torn hl hb hm hn] at hg ⊢
  rw [torn_good hb (orL_bytes hm hn) hl hgb, decide_eq_true_eq] at hg
  rw [hg]
  apply List.ext_getElem?
  intro i
  rw [torn_get]
  cases e : b[i]? with
  | none => rfl
  | some x =>
    simp only [Option.map_some]
    congr 1
    have hx := hb x (List.mem_of_getElem? e)
    have h1 := (zc_or hx (pickF_byte hm i)).2.2
    have h2 := (zc_or (orB_byte hx (pickF_byte hm i)) (pickF_byte hn i)).2.2
    have h3 : orB (orB x (pickF m i)) (pickF n i) = x := by
      have h4 := congrArg (fun l : List Int => l[i]?) hg
      rw [← torn_torn hl hb hm hn] at h4
      simp only [torn_get, e, Option.map_some] at h4
      exact Option.some.inj h4
    omega
def blankP : List Int := List.replicate 64 255
theorem blankP_len : blankP.length = 64 := by simp [blankP]
theorem blankP_bytes : Bytes blankP := bytes_rep 64 255 (by omega)
theorem orB_full {x : Int} (hx : 0 ≤ x ∧ x < 256) : orB x 255 = 255 := by
  have h : ∀ n : Fin 256, orB (n.val : Int) 255 = 255 := by decide +kernel
  have := h ⟨x.toNat, by omega⟩
  simp only [Int.toNat_of_nonneg hx.1] at this
  exact this
theorem Trn.blank : Trn blankP := by
  refine ⟨pageP 1 [0] 0, blankP, good_page _ _ _, pageP_length _ _ _, pageP_bytes _ _ _ (by omega) (by simp), blankP_bytes, ?_⟩
  apply List.ext_getElem?
  intro i
  rw [torn_get]
  by_cases hi : i < 64
  · obtain ⟨x, hx⟩ := getElem?_of_lt (l := pageP 1 [0] 0) (k := i) (by rw [pageP_length]; exact hi)
    have hb : blankP[i]? = some 255 := by unfold blankP; rw [List.getElem?_replicate, if_pos hi]
    have hp : pickF blankP i = 255 := by unfold pickF; rw [hb]; rfl
    rw [hx, hb, Option.map_some, hp, orB_full (pageP_bytes _ _ _ (by omega) (by simp) x (List.mem_of_getElem? hx))]
  · rw [List.getElem?_eq_none (by rw [blankP_len]; omega), List.getElem?_eq_none (by rw [pageP_length]; omega)]
    rfl
theorem blankP_bad : goodP blankP = false := blank_bad
theorem blankF_blank {p : List Int} (h : p.length = 64) : blankF p = true ↔ p = blankP := by
  unfold blankF blankP
  constructor
  · intro hb
    rw [List.all_eq_true] at hb
    rw [← h]
    exact List.eq_replicate_iff.2 ⟨rfl, fun x hx => by simpa using hb x hx⟩
  · rintro rfl
    rw [List.all_eq_true]
    intro x hx
    rw [List.mem_replicate] at hx
    simp [hx.2]

/-- The record of a slot. -/
def recS (f : Fl) (s : St) (b j : Nat) : Option (Int × List Int) :=
  let d := decP (pagesF f (pageS s f b j) s.k)
  if d.2.2 = 0 ∧ d.2.1.length = s.spec.length then some (d.1, d.2.1) else none
theorem recS_some {f : Fl} {s : St} {b j : Nat} {q : Int} {v : List Int} (h : recS f s b j = some (q, v)) :
    pagesF f (pageS s f b j) s.k = encP q v ∧ encE q v.length = 0 ∧ v.length = s.spec.length ∧ (∀ x ∈ v, I64 x) ∧ ∀ p ∈ pagesF f (pageS s f b j) s.k, goodP p = true := by
  unfold recS at h
  simp only at h
  have hv := decP_vals (pagesF f (pageS s f b j) s.k)
  have hok := decP_ok (ps := pagesF f (pageS s f b j) s.k)
  generalize decP (pagesF f (pageS s f b j) s.k) = d at *
  split at h
  · rename_i hc
    injection h with h
    obtain ⟨dq, dv, de⟩ := d
    simp only [Prod.mk.injEq] at h
    obtain ⟨rfl, rfl⟩ := h
    obtain ⟨a, b', c, _⟩ := hok hc.1
    exact ⟨a, b', hc.2, hv, List.all_eq_true.1 c⟩
  · cases h
theorem recS_enc {f : Fl} {s : St} {b j : Nat} {q : Int} {v : List Int} (hp : pagesF f (pageS s f b j) s.k = encP q v) (he : encE q v.length = 0) (hl : v.length = s.spec.length) (hv : ∀ x ∈ v, I64 x) : recS f s b j = some (q, v) := by
  unfold recS
  rw [hp, dec_enc he hv]
  simp [hl]
theorem recS_bad {f : Fl} {s : St} {b j i : Nat} (hi : i < s.k) (hb : goodP (pageF f (pageS s f b j + i)) = false) : recS f s b j = none := by
  cases h : recS f s b j with
  | none => rfl
  | some r =>
    obtain ⟨q, v⟩ := r
    have := (recS_some h).2.2.2.2 (pageF f (pageS s f b j + i)) (by
      unfold pagesF
      rw [List.mem_map]
      exact ⟨i, List.mem_range.2 hi, rfl⟩)
    rw [hb] at this
    cases this
theorem pagesF_congr {f g : Fl} {a n : Nat} (h : ∀ i, i < n → pageF g (a + i) = pageF f (a + i)) : pagesF g a n = pagesF f a n := by
  unfold pagesF
  apply List.map_congr_left
  intro i hi
  exact h i (List.mem_range.1 hi)
theorem recS_congr {f g : Fl} {s s' : St} {b j : Nat} (hf : s'.first = s.first) (hs : s'.spec = s.spec) (hp : g.pg = f.pg) (h : ∀ i, i < s.k → pageF g (pageS s f b j + i) = pageF f (pageS s f b j + i)) : recS g s' b j = recS f s b j := by
  have hk : s'.k = s.k := by unfold St.k; rw [hs]
  have ha : pageS s' g b j = pageS s f b j := by unfold pageS; rw [hk, hf, hp]
  unfold recS
  rw [ha, hk, pagesF_congr h, hs]

/-- The newest record of a region. -/
def Newest (f : Fl) (s : St) : Option (Int × Nat × Nat × List Int) → Prop
  | none => ∀ b j, b < s.blocks → j < slotsS s f → recS f s b j = none
  | some (q, b, j, v) => b < s.blocks ∧ j < slotsS s f ∧ recS f s b j = some (q, v) ∧ ∀ b' j' q' v', b' < s.blocks → j' < slotsS s f → recS f s b' j' = some (q', v') → (b' = b ∧ j' = j) ∨ q' < q

theorem openStep_rec (f : Fl) (s : St) (b j : Nat) : openStep f s b j = match recS f s b j with
    | some (q, v) => if q ≤ s.seq then s else { s with seq := q, block := b, slot := j, saved := legal s.spec v }
    | none => s := by
  obtain ⟨d, hd⟩ : ∃ d, decP (pagesF f (pageS s f b j) s.k) = d := ⟨_, rfl⟩
  by_cases h : d.2.2 = 0 ∧ d.2.1.length = s.spec.length
  · have hr : recS f s b j = some (d.1, d.2.1) := by unfold recS; rw [hd]; exact if_pos h
    rw [hr]
    simp only
    by_cases hq : d.1 ≤ s.seq
    · rw [if_pos hq, openStep_no hd (.inr (.inr hq))]
    · rw [if_neg hq, openStep_yes hd (by omega)]
  · have hr : recS f s b j = none := by unfold recS; rw [hd]; exact if_neg h
    rw [hr]
    refine openStep_no hd ?_
    by_cases h0 : d.2.2 = 0
    · exact .inr (.inl (fun e => h ⟨h0, e⟩))
    · exact .inl h0

/-- So far as the region has been searched. -/
def Scan (f : Fl) (s0 : St) (P : Nat → Nat → Prop) (a : St) : Prop :=
  (a = s0 ∧ ∀ b j, P b j → recS f s0 b j = none) ∨
  ∃ q b j v, P b j ∧ recS f s0 b j = some (q, v) ∧ a = { s0 with seq := q, block := b, slot := (j : Int), saved := legal s0.spec v } ∧ ∀ b' j' q' v', P b' j' → recS f s0 b' j' = some (q', v') → q' ≤ q
theorem Scan.step {f : Fl} {s0 a : St} {P : Nat → Nat → Prop} (h0 : s0.seq = 0) (h : Scan f s0 P a) (b j : Nat) : Scan f s0 (fun b' j' => P b' j' ∨ (b' = b ∧ j' = j)) (openStep f a b j) := by
  have hrec : recS f a b j = recS f s0 b j := by
    rcases h with ⟨rfl, _⟩ | ⟨q, b1, j1, v, _, _, rfl, _⟩
    · rfl
    · exact recS_congr rfl rfl rfl (fun _ _ => rfl)
  rw [openStep_rec, hrec]
  cases hr : recS f s0 b j with
  | none =>
    rcases h with ⟨rfl, hn⟩ | ⟨q, b1, j1, v, hp, hq, rfl, hm⟩
    · refine .inl ⟨rfl, fun b' j' h' => ?_⟩
      rcases h' with h' | ⟨rfl, rfl⟩
      · exact hn b' j' h'
      · exact hr
    · refine .inr ⟨q, b1, j1, v, .inl hp, hq, rfl, fun b' j' q' v' h' hq' => ?_⟩
      rcases h' with h' | ⟨rfl, rfl⟩
      · exact hm b' j' q' v' h' hq'
      · rw [hr] at hq'; cases hq'
  | some r =>
    obtain ⟨qr, vr⟩ := r
    simp only
    have hpos := (encE_zero (recS_some hr).2.1).1
    rcases h with ⟨rfl, hn⟩ | ⟨q, b1, j1, v, hp, hq, rfl, hm⟩
    · rw [if_neg (by omega)]
      refine .inr ⟨qr, b, j, vr, .inr ⟨rfl, rfl⟩, hr, rfl, fun b' j' q' v' h' hq' => ?_⟩
      rcases h' with h' | ⟨rfl, rfl⟩
      · rw [hn b' j' h'] at hq'; cases hq'
      · rw [hr] at hq'
        injection hq' with hq'
        simp only [Prod.mk.injEq] at hq'
        omega
    · simp only
      by_cases hle : qr ≤ q
      · rw [if_pos hle]
        refine .inr ⟨q, b1, j1, v, .inl hp, hq, rfl, fun b' j' q' v' h' hq' => ?_⟩
        rcases h' with h' | ⟨rfl, rfl⟩
        · exact hm b' j' q' v' h' hq'
        · rw [hr] at hq'
          injection hq' with hq'
          simp only [Prod.mk.injEq] at hq'
          omega
      · rw [if_neg hle]
        refine .inr ⟨qr, b, j, vr, .inr ⟨rfl, rfl⟩, hr, rfl, fun b' j' q' v' h' hq' => ?_⟩
        rcases h' with h' | ⟨rfl, rfl⟩
        · have := hm b' j' q' v' h' hq'
          omega
        · rw [hr] at hq'
          injection hq' with hq'
          simp only [Prod.mk.injEq] at hq'
          omega
theorem Scan.weak {f : Fl} {s0 a : St} {P Q : Nat → Nat → Prop} (h : Scan f s0 P a) (hPQ : ∀ b j, P b j ↔ Q b j) : Scan f s0 Q a := by
  have : P = Q := funext fun b => funext fun j => propext (hPQ b j)
  rw [← this]
  exact h
theorem scan_row {f : Fl} {s0 a : St} {b T : Nat} (h0 : s0.seq = 0) (h : Scan f s0 (fun b' j' => b' < b ∧ j' < T) a) {n : Nat} (hn : n ≤ T) :
    Scan f s0 (fun b' j' => (b' < b ∧ j' < T) ∨ (b' = b ∧ j' < n)) (openRow f b a n) := by
  induction n with
  | zero => exact h.weak (fun b' j' => by omega)
  | succ n ih =>
    rw [openRow_succ]
    exact ((ih (by omega)).step h0 b n).weak (fun b' j' => by omega)
theorem scan_all {f : Fl} {s0 : St} {T : Nat} (h0 : s0.seq = 0) (m : Nat) : Scan f s0 (fun b' j' => b' < m ∧ j' < T) (openAll f T s0 m) := by
  induction m with
  | zero => exact .inl ⟨rfl, fun b j h => by omega⟩
  | succ m ih =>
    rw [openAll_succ]
    exact (scan_row h0 ih (Nat.le_refl T)).weak (fun b' j' => by omega)
/-- What the search finds. -/
theorem openAll_newest {f : Fl} {s0 : St} (h0 : s0.seq = 0) {cur : Option (Int × Nat × Nat × List Int)} (hn : Newest f s0 cur) :
    openAll f (slotsS s0 f) s0 s0.blocks = match cur with
      | none => s0
      | some (q, b, j, v) => { s0 with seq := q, block := b, slot := (j : Int), saved := legal s0.spec v } := by
  have h := scan_all (f := f) (T := slotsS s0 f) h0 s0.blocks
  cases cur with
  | none =>
    rcases h with ⟨e, _⟩ | ⟨q, b, j, v, hp, hq, _, _⟩
    · exact e
    · rw [hn b j hp.1 hp.2] at hq; cases hq
  | some c =>
    obtain ⟨q, b, j, v⟩ := c
    obtain ⟨n1, n2, n3, n4⟩ := hn
    rcases h with ⟨_, hx⟩ | ⟨q', b', j', v', hp, hq, e, hm⟩
    · rw [hx b j ⟨n1, n2⟩] at n3; cases n3
    · have h1 := hm b j q v ⟨n1, n2⟩ n3
      rcases n4 b' j' q' v' hp.1 hp.2 hq with ⟨rfl, rfl⟩ | hlt
      · rw [n3] at hq
        injection hq with hq
        simp only [Prod.mk.injEq] at hq
        obtain ⟨rfl, rfl⟩ := hq
        exact e
      · omega
end Go.Proofs.Ytjdknddnanopaaa
