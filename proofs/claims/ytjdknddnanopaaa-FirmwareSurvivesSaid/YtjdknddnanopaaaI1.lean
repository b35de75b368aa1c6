/-
  Layer 52: a bank in memory beside slices that its calls leave alone; steps of the statements.
-/
import Derived.Test.YtjdknddnanopaaaH8
import Derived.Test.YtjdknddnanopaaaG5
namespace Go.Proofs.Ytjdknddnanopaaa
open Go.RowKit
set_option linter.unusedVariables false
set_option linter.unusedSimpArgs false

section
variable {w0 w w' : World} {L : Lc} {S : Sc} {K : Kc} {f : Fl} {b : Bk} {d D : Nat} {l : List (Option Addr × List Value)}
theorem RdX.aft {L' : Lc} {S' : Sc} {K' : Kc} {A : Option Addr} {xs : List Value} (h : RdX (OwnK L S K) w A xs) (k : Aft w w' L S K L' S' K') : RdX (OwnK L' S' K') w' A xs := fun hx => by
  obtain ⟨g, off, e, hlt, hn, hc⟩ := h hx
  exact ⟨g, off, e, Nat.lt_of_lt_of_le hlt k.only.size, fun hg => hn (k.own g hlt hg), fun j u hu => (cell_of_block (k.only.block g hlt hn)).trans (hc j u hu)⟩
/-- A bank at D on the flash at d, and slices in no block that its calls write. -/
def Bx (w0 w : World) (d D : Nat) (l : List (Option Addr × List Value)) (f : Fl) (b : Bk) : Prop :=
  ∃ L S K, L.d = d ∧ K.D = D ∧ BkAt w0 w L S K f b ∧ ∀ p ∈ l, RdX (OwnK L S K) w p.1 p.2
theorem Bx.of {f' : Fl} {b' : Bk} (hd : L.d = d) (hD : K.D = D) (hl : ∀ p ∈ l, RdX (OwnK L S K) w p.1 p.2) (h : BkTo w0 w L S K f' b' w') : Bx w0 w' d D l f' b' := by
  obtain ⟨L', S', K', ha, hk⟩ := h
  exact ⟨L', S', K', ha.ld.trans hd, ha.d.trans hD, hk, fun p hp => (hl p hp).aft ha⟩
theorem Bx.below (h : Bx w0 w d D l f b) : Below w0.heap.size w0 w := by
  obtain ⟨L, S, K, _, _, hk, _⟩ := h
  exact hk.st.fl.below
theorem Bx.later (h : Bx w0 w d D l f b) (hb : Below w.heap.size w w') : Bx w0 w' d D l f b := by
  obtain ⟨L, S, K, h1, h2, hk, hl⟩ := h
  exact ⟨L, S, K, h1, h2, hk.later hb, fun p hp => (hl p hp).below hb⟩
theorem Bx.less {l' : List (Option Addr × List Value)} (h : Bx w0 w d D l f b) (hl : ∀ p ∈ l', p ∈ l) : Bx w0 w d D l' f b := by
  obtain ⟨L, S, K, h1, h2, hk, hh⟩ := h
  exact ⟨L, S, K, h1, h2, hk, fun p hp => hh p (hl p hp)⟩
theorem Bx.rd (h : Bx w0 w d D l f b) {p : Option Addr × List Value} (hp : p ∈ l) : Rd w w.heap.size p.1 p.2 := by
  obtain ⟨L, S, K, h1, h2, hk, hh⟩ := h
  exact (hh p hp).rd
theorem Bx.step (h : Bx w0 w d D l f b) (ho : BkOk f b) {q : Bk × Fl × Bool × Int} (hq : stepB b f = q) : Calls Try.prog 35 #[.pointer (some ⟨D, 0, none⟩)] w fun e w' => e = .returned (.tuple #[.bool q.2.2.1, errV q.2.2.2]) ∧ Bx w0 w' d D l q.2.1 q.1 := by
  obtain ⟨L, S, K, h1, rfl, hk, hl⟩ := h
  refine (fstep_any hk ho).mono ?_
  rintro e w' ⟨he, hb⟩
  rw [hq] at he hb
  exact ⟨he, .of h1 rfl hl hb⟩
theorem Bx.begin (h : Bx w0 w d D l f b) (ho : BkOk f b) (v n : Int) (hn : I64 n) {q : Bk × Int} (hq : beginB b f v n = q) : Calls Try.prog 34 #[.pointer (some ⟨D, 0, none⟩), .int .i64 v, .int .i64 n] w fun e w' => e = .returned (errV q.2) ∧ Bx w0 w' d D l f q.1 := by
  obtain ⟨L, S, K, h1, rfl, hk, hl⟩ := h
  refine (fbegin_any hk ho v n hn).mono ?_
  rintro e w' ⟨he, hb⟩
  rw [hq] at he hb
  exact ⟨he, .of h1 rfl hl hb⟩
theorem Bx.confirm {n : Int} (h : Bx w0 w d D l f b) (hJ : BkJ f b n) (hn : n ≤ 1000000) {q : Bk × Int} (hq : confirmB b f = q) : Calls Try.prog 30 #[.pointer (some ⟨D, 0, none⟩)] w fun e w' => e = .returned (errV q.2) ∧ Bx w0 w' d D l f q.1 := by
  obtain ⟨L, S, K, h1, rfl, hk, hl⟩ := h
  refine (fconfirm_any hk hJ.ok (fun hb hr => (hJ.lv hb (hJ.dn hb)).2.symm.trans hr) (by have := hJ.sq; omega)).mono ?_
  rintro e w' ⟨he, hb⟩
  rw [hq] at he hb
  exact ⟨he, .of h1 rfl hl hb⟩
theorem Bx.boot (h : Bx w0 w d D l f b) (ho : BkOk f b) {q : Bk × Fl × Int × Int} (hq : bootB b f = q) : Calls Try.prog 26 #[.pointer (some ⟨D, 0, none⟩)] w fun e w' => e = .returned (.tuple #[.int .i64 q.2.2.1, errV q.2.2.2]) ∧ Bx w0 w' d D l q.2.1 q.1 := by
  obtain ⟨L, S, K, h1, rfl, hk, hl⟩ := h
  refine (fboot_any hk ho).mono ?_
  rintro e w' ⟨he, hb⟩
  rw [hq] at he hb
  exact ⟨he, .of h1 rfl hl hb⟩
theorem Bx.feed (h : Bx w0 w d D l f b) (ho : BkOk f b) (A : Option Addr) (n c : Nat) (x : List Int) (hA : (A, kcells .u8 x) ∈ l) (hn : x.length = n) (hnc : n ≤ c) (hcm : c ≤ maxLen) {q : Bk × Int} (hq : feedB b f x = q) : Calls Try.prog 36 #[.pointer (some ⟨D, 0, none⟩), .slice A n c] w fun e w' => e = .returned (errV q.2) ∧ Bx w0 w' d D l f q.1 := by
  obtain ⟨L, S, K, h1, rfl, hk, hl⟩ := h
  refine (ffeed_any hk ho A n c x (hl _ hA) hn hnc hcm).mono ?_
  rintro e w' ⟨he, hb⟩
  rw [hq] at he hb
  exact ⟨he, .of h1 rfl hl hb⟩
theorem Bx.finish {n : Int} (h : Bx w0 w d D l f b) (hJ : BkJ f b n) (hn : n ≤ 1000000) (c : Int) (hc : 0 ≤ c ∧ c < 4294967296) {q : Bk × Int} (hq : finishB b f c = q) : Calls Try.prog 37 #[.pointer (some ⟨D, 0, none⟩), .int .u32 c] w fun e w' => e = .returned (errV q.2) ∧ Bx w0 w' d D l f q.1 := by
  obtain ⟨L, S, K, h1, rfl, hk, hl⟩ := h
  refine (ffinish_any hk hJ.ok (fun hb hr => (hJ.lv hb (hJ.dn hb)).2.symm.trans hr) (by have := hJ.sq; omega) hJ.ul c hc).mono ?_
  rintro e w' ⟨he, hb⟩
  rw [hq] at he hb
  exact ⟨he, .of h1 rfl hl hb⟩
theorem Bx.image (h : Bx w0 w d D l f b) (ho : BkOk f b) (si : Int) {q : Bk × List Int × Int} (hq : imageB b f si = q) : Calls Try.prog 28 #[.pointer (some ⟨D, 0, none⟩), .int .i64 si] w fun e w' => ∃ A n c, e = .returned (.tuple #[.slice A n c, errV q.2.2]) ∧ q.2.1.length = n ∧ n ≤ c ∧ c ≤ maxLen ∧ Rd w' w'.heap.size A (kcells .u8 q.2.1) ∧ Bx w0 w' d D l f q.1 := by
  obtain ⟨L, S, K, h1, rfl, hk, hl⟩ := h
  refine (fimage_any hk ho si).mono ?_
  rintro e w' ⟨A, n, c, he, h11, h2, h3, h4, hb⟩
  rw [hq] at he hb h11 h4
  exact ⟨A, n, c, he, h11, h2, h3, (h4 (fun _ => False) (fun g hg => hg.elim)).rd, .of h1 rfl hl hb⟩
theorem Bx.trial (h : Bx w0 w d D l f b) (ho : BkOk f b) {x y : Int} (hx : savB b 1 = x) (hy : savB b 2 = y) : Calls Try.prog 29 #[.pointer (some ⟨D, 0, none⟩)] w fun e w' => e = .returned (.tuple #[.int .i64 x, .int .i64 y]) ∧ Bx w0 w' d D l f b := by
  have h0 := h
  obtain ⟨L, S, K, h1, rfl, hk, hl⟩ := h
  refine (ftrial_any hk ho).mono ?_
  rintro e w' ⟨he, hb⟩
  rw [hx, hy] at he
  exact ⟨he, h0.later hb⟩

/-- Where the loop of steps stands. -/
def StL (w0 wr : World) (d D : Nat) (l : List (Option Addr × List Value)) (q : Bk × Fl × Bool) (k : Nat) : Prop := ∃ f b n, Bx w0 wr d D l f b ∧ BkJ f b n ∧ stepsB (40 - k) b f = q
set_option maxHeartbeats 1000000 in
theorem steps_any {n : Int} (h : Bx w0 w d D l f b) (hJ : BkJ f b n) {q : Bk × Fl × Bool} (hq : stepsB 40 b f = q) : Calls Try.prog 31 #[.pointer (some ⟨D, 0, none⟩)] w fun e w' => e = .returned (.bool q.2.2) ∧ Bx w0 w' d D l q.2.1 q.1 := by
  have g1 := ne_nil
  have g2 := ne_err
  have HS : Hid (StL w0 w d D l q 0) := ⟨f, b, n, h, hJ, hq⟩
  clear h hJ hq
  go_enter Try.func31, Try.ntmps31
  go_wp2_with (fail)
  go_loopw [5] (fun i wr => ∃ k : Nat, k ≤ 40 ∧ i = .int .i64 k ∧ StL w0 wr d D l q k) (fun i _ => 40 - (intOf i).toNat)
  case atStart => exact ⟨0, Nat.zero_le _, rfl, HS.out⟩
  case round =>
    obtain ⟨k, hk, rfl, hS⟩ := hrel
    by_cases hlt : k < 40
    · obtain ⟨f, b, n, hB, hJ, hq⟩ := hS
      obtain ⟨r, hr⟩ : ∃ r, stepB b f = r := ⟨_, rfl⟩
      have HC := Lib.hid (hB.step hJ.ok hr)
      have hJ2 := stepB_J hJ
      rw [show 40 - k = (40 - (k + 1)) + 1 by omega] at hq
      unfold stepsB at hq
      rw [hr] at hJ2 hq
      clear hB hJ HS
      have HJ2 := Lib.hid hJ2
      clear hJ2
      by_cases hc : r.2.2.2 = 0
      · rw [if_neg (by rw [hc]; simp)] at hq
        rw [hc, errV_zero] at HC
        cases hd : r.2.2.1 with
        | true =>
          rw [hd] at HC hq
          rw [if_pos rfl] at hq
          have HQ := Lib.hid hq
          clear hq
          go_wp2_with (fail)
          (with_reducible refine HC.out.mono ?_)
          rintro e w1 ⟨rfl, hB1⟩
          have HB1 := Lib.hid hB1
          clear hB1
          go_wp2
          go_ret
          rw [← HQ.out]
          exact ⟨rfl, HB1.out⟩
        | false =>
          rw [hd] at HC hq
          rw [if_neg (by decide)] at hq
          have HQ := Lib.hid hq
          clear hq
          go_wp2_with (fail)
          (with_reducible refine HC.out.mono ?_)
          rintro e w1 ⟨rfl, hB1⟩
          have HB1 := Lib.hid hB1
          clear hB1
          go_wp2
          go_roundw
          case rel => exact ⟨k + 1, by omega, by go_num, r.2.1, r.1, _, HB1.out, HJ2.out, HQ.out⟩
          case measure => simp [intOf]; omega
      · rw [if_pos hc] at hq
        rw [errV_ne hc] at HC
        have HQ := Lib.hid hq
        clear hq
        go_wp2_with (fail)
        (with_reducible refine HC.out.mono ?_)
        rintro e w1 ⟨rfl, hB1⟩
        have HB1 := Lib.hid hB1
        clear hB1
        go_wp2
        go_ret
        rw [← HQ.out]
        exact ⟨rfl, HB1.out⟩
    · have hk40 : k = 40 := by omega
      subst hk40
      obtain ⟨f, b, n, hB, hJ, hq⟩ := hS
      have HQ := Lib.hid hq
      have HB := Lib.hid hB
      clear hB hJ hq HS
      go_wp2
      go_ret
      rw [← HQ.out]
      exact ⟨rfl, HB.out⟩
end
end Go.Proofs.Ytjdknddnanopaaa
