/-
  One step changes one page, or erases one block. No program in sight.
-/
import Derived.Test.YtfeceamhlphelaaPlainN
namespace Go.Proofs.Ytfeceamhlphelaa
open Go.RowKit
set_option linter.unusedVariables false

/-- What a step does to the image. -/
structure Chg (f g : Fl) (blk : Nat) : Prop where
  len : g.img.length = f.img.length
  lt : blk < f.wear.length
  at_ : ∀ k, g.img[k]? ≠ f.img[k]? → k / 64 / f.pg = blk
  one : (∃ page, ∀ k, g.img[k]? ≠ f.img[k]? → k / 64 = page) ∨ ∀ k, 64 * f.pg * blk ≤ k → k < 64 * f.pg * (blk + 1) → g.img[k]? = some 255
theorem prog_chg {f : Fl} (hf : f.ok) (hc : Calm f) {page : Int} {b : List Int} (h : (progF f page b).2 = 0) : ∃ B, Chg f (progF f page b).1 B := by
  revert h
  have hlen := hf.len
  have hp1 := hf.p1
  unfold progF
  by_cases h0 : atF f page = 0
  · obtain ⟨_, q1, q2⟩ := atF_zero h0
    obtain ⟨P, rfl⟩ := Int.eq_ofNat_of_zero_le q1
    have hP : P < f.wear.length * f.pg := by omega
    rw [if_neg (by rw [h0]; decide)]
    split
    · intro h; cases h
    rename_i hb
    split
    · intro h; cases h
    rw [cutF_calm hc, if_neg (fun e => by cases e)]
    intro _
    have hb' : b.length = 64 := by omega
    rw [Int.toNat_natCast]
    have hin : 64 * P + b.length ≤ f.img.length := by rw [hlen, hb']; omega
    have hch : ∀ k, (lay f.img (64 * P) b)[k]? ≠ f.img[k]? → k / 64 = P := by
      intro k hk
      rw [lay_get _ _ _ hin] at hk
      split at hk
      · rename_i hr
        rw [hb'] at hr
        omega
      · exact absurd rfl hk
    refine ⟨P / f.pg, lay_length _ _ _ hin, Nat.div_lt_of_lt_mul (by rw [Nat.mul_comm]; exact hP), fun k hk => by rw [hch k hk], .inl ⟨P, hch⟩⟩
  · rw [if_pos h0]
    intro h
    exact absurd h h0
theorem erase_chg {f : Fl} (hf : f.ok) (hc : Calm f) {block : Int} (h : (eraseF f block).2 = 0) : ∃ B, Chg f (eraseF f block).1 B := by
  revert h
  have hlen := hf.len
  have hp1 := hf.p1
  unfold eraseF
  rw [if_neg (by rw [hc.2]; decide)]
  split
  · intro h; cases h
  rename_i hb
  rw [cutF_calm hc, if_neg (fun e => by cases e)]
  intro _
  obtain ⟨B, rfl⟩ := Int.eq_ofNat_of_zero_le (a := block) (by omega)
  have hB : B < f.wear.length := by omega
  rw [Int.toNat_natCast]
  have hmul : 64 * f.pg * B + 64 * f.pg = 64 * f.pg * (B + 1) := by rw [Nat.mul_add, Nat.mul_one]
  have hall : 64 * f.pg * (B + 1) ≤ 64 * f.pg * f.wear.length := Nat.mul_le_mul_left _ hB
  have hin : 64 * f.pg * B + (List.replicate (64 * f.pg) (255 : Int)).length ≤ f.img.length := by
    rw [List.length_replicate, hlen, hmul]
    have e : f.wear.length * f.pg * 64 = 64 * f.pg * f.wear.length := by rw [Nat.mul_comm f.wear.length f.pg, Nat.mul_comm _ 64, Nat.mul_assoc]
    omega
  refine ⟨B, lay_length _ _ _ hin, hB, fun k hk => ?_, .inr fun k h1 h2 => ?_⟩
  · rw [lay_get _ _ _ hin] at hk
    split at hk
    · rename_i hr
      rw [List.length_replicate, hmul] at hr
      rw [Nat.div_div_eq_div_mul]
      exact Nat.div_eq_of_lt_le (by rw [Nat.mul_comm]; exact hr.1) (by rw [Nat.mul_comm]; exact hr.2)
    · exact absurd rfl hk
  · show (lay f.img (64 * f.pg * B) (List.replicate (64 * f.pg) 255))[k]? = some 255
    rw [lay_get _ _ _ hin, if_pos ⟨h1, by rw [List.length_replicate, hmul]; exact h2⟩, List.getElem?_replicate, if_pos (by omega)]
theorem op_chg {f : Fl} {s : St} (hf : f.ok) (hc : Calm f) (h : (opS s f).2 = 0) : ∃ B, Chg f (opS s f).1 B := by
  revert h
  unfold opS
  split
  · exact erase_chg hf hc
  · exact prog_chg hf hc
/-- A step, when no power failure is to come. -/
theorem step_chg {f : Fl} {s : St} (hl : Live f s) (hc : Calm f) (hb : s.busy = true) :
    (stepS s f).2.2.2 = 0 ∧ Live (stepS s f).2.1 (stepS s f).1 ∧ Calm (stepS s f).2.1 ∧ (∃ B, Chg f (stepS s f).2.1 B) ∧ Same s (stepS s f).1 ∧ ((stepS s f).2.2.1 = true ∧ (stepS s f).1.busy = false ∨ (stepS s f).2.2.1 = false ∧ (stepS s f).1.busy = true) := by
  have hcalm := stepS_calm hc s
  have hop : (opS s f).2 = 0 → ∃ B, Chg f (stepS s f).2.1 B := by
    intro h0
    have h1 : (stepS s f).2.1 = (opS s f).1 := by
      unfold stepS
      rw [if_neg (by rw [hl.br]; decide), if_neg (by rw [hb]; decide), if_neg (by rw [h0]; decide)]
      split <;> rfl
    rw [h1]
    exact op_chg hl.fok hc h0
  have hz : (stepS s f).2.2.2 = 0 → (opS s f).2 = 0 := by
    intro h
    by_cases h0 : (opS s f).2 = 0
    · exact h0
    · unfold stepS at h
      rw [if_neg (by rw [hl.br]; decide), if_neg (by rw [hb]; decide), if_pos h0] at h
      cases h
  have hs := hl.step hb
  cases hs with
  | more a1 a2 a3 a4 => exact ⟨a2, a3, hcalm, hop (hz a2), stepS_same s f, .inr ⟨a1, a4⟩⟩
  | last a1 a2 a3 a4 => exact ⟨a2, a3, hcalm, hop (hz a2), stepS_same s f, .inl ⟨a1, a4⟩⟩
  | dead a1 a2 a3 => exact absurd a3.dn (by rw [hcalm.2]; decide)
end Go.Proofs.Ytfeceamhlphelaa
