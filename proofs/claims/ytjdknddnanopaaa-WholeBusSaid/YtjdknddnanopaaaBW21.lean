
/-
  mapping.Encode.
-/
import Derived.Test.YtjdknddnanopaaaBW20
import Derived.Test.YtjdknddnanopaaaBW19
import Derived.Laws.CopyOwn
namespace Go.Proofs.Ytjdknddnanopaaa.Bus
open Go.RowKit
set_option linter.unusedVariables false

theorem own_heap {w : World} {base e g n : Nat} {xs : List Value} (h : w.ownsRow base e 1 (.slice (some ⟨g, 0, none⟩) n n) n xs) (hn : 0 < n) : w.heap[g]? = some (.cells xs.toArray e (0, 0)) ∧ base ≤ g ∧ n ≤ maxLen := by
  rcases h.2 with ⟨hv, rfl⟩ | ⟨g', cap, cur, hv, hb, hg, hnc, hcm, hcs, htake⟩
  · omega
  · injection hv with e1 e2 e3
    injection e1 with e1
    injection e1 with e1
    subst e1 e3
    have hc : cur.toList = xs := by
      rw [← htake, List.take_of_length_le]
      simp [hcs]
    refine ⟨?_, hb, hcm⟩
    rw [hg, ← hc]

theorem own_of_heap {w : World} {base e g n : Nat} {xs : List Value} (hl : xs.length = n) (hb : base ≤ g) (hm : n ≤ maxLen) (hg : w.heap[g]? = some (.cells xs.toArray e (0, 0))) : w.ownsRow base e 1 (.slice (some ⟨g, 0, none⟩) n n) n xs :=
  ⟨by omega, .inr ⟨g, n, xs.toArray, rfl, hb, hg, Nat.le_refl _, hm, by simp [hl], by simp [← hl]⟩⟩

theorem kcells_cons (k : IntKind) (x : Int) (l : List Int) : kcells k (x :: l) = .int k x :: kcells k l := rfl
theorem kcells_length (k : IntKind) (l : List Int) : (kcells k l).length = l.length := by simp [kcells]
theorem kcells_one (k : IntKind) (l : List Int) : ∀ u ∈ kcells k l, u.oneCell' = true := by
  intro u hu
  simp only [kcells, List.mem_map] at hu
  obtain ⟨x, _, rfl⟩ := hu
  rfl
theorem size5 : (Try.prog.info? 5).map (·.size) = some 1 := by kernel_rfl

theorem enc_zeros (n : Nat) (a b : Int) : ((List.replicate (n + 3) (0 : Int)).set 0 a).set 1 b = a :: b :: List.replicate (n + 1) 0 := by
  rw [show n + 3 = (n + 1) + 1 + 1 by omega]
  simp [List.replicate_succ]
theorem enc_splice (a b : Int) (d : List Int) (n : Nat) (hd : d.length = n) : splice (kcells .u8 (a :: b :: List.replicate (n + 1) 0)) 2 (kcells .u8 d) = kcells .u8 (a :: b :: d ++ [0]) := by
  subst hd
  simp [splice, kcells]
  rw [show 2 + d.length = d.length + 1 + 1 by omega]
  simp only [List.drop_succ_cons, List.drop_replicate]
  rw [show d.length + 1 - d.length = 1 by omega]
  rfl
theorem enc_last (a b x : Int) (d : List Int) (n : Nat) (hd : d.length = n) : (a :: b :: d ++ [0]).set (n + 2) x = a :: b :: d ++ [x] := by
  subst hd
  simp

set_option maxRecDepth 100000 in
set_option maxHeartbeats 4000000 in
theorem Encode_any (s : Int) (A : Option Addr) (n c : Nat) (d : List Int) (w : World) (hA : Rd w w.heap.size A (kcells .u8 d)) (hn : d.length = n) (hc : n ≤ c) (hcc : c ≤ maxLen) (hr : Bytes d) :
    Calls Try.prog 48 #[.agg #[.int .i64 s, .slice A n c]] w fun e w' => ∃ Ar cr, e = .returned (.tuple #[.slice Ar (encO s d).1.length cr, errV (encO s d).2]) ∧ (encO s d).1.length ≤ cr ∧ cr ≤ maxLen ∧ Rd w' w'.heap.size Ar (kcells .u8 (encO s d).1) ∧ Below w.heap.size w w' := by
  obtain ⟨q, hq⟩ : ∃ q, encO s d = q := ⟨_, rfl⟩
  rw [hq]
  obtain ⟨x, ec⟩ := q
  simp only
  have hcm := hcc
  unfold maxLen at hcm
  obtain ⟨i5, hi5, hz50, hz51, hz52⟩ := info_parts info5
  unfold encO at hq
  rw [hn] at hq
  have HN := Lib.hid hn
  have HA := Lib.hid hA
  have HR := Lib.hid hr
  clear hn hA hr hcc
  by_cases hs : s < 0 ∨ 255 < s
  · rw [if_pos hs] at hq
    simp only [Prod.mk.injEq] at hq
    obtain ⟨rfl, rfl⟩ := hq
    by_cases h1 : s < 0
    · go_enter Try.func48, Try.ntmps48
      go_wp2
      go_ret2
      first | exact ⟨none, 0, rfl, Nat.le_refl _, Nat.zero_le _, fun h => absurd rfl h, (Below.refl _ _).alloc (Nat.le_refl _) _⟩ | exact ⟨none, 0, rfl, Nat.zero_le _, fun h => absurd rfl h, (Below.refl _ _).alloc (Nat.le_refl _) _⟩
    · have h2 : 255 < s := by omega
      go_enter Try.func48, Try.ntmps48
      go_wp2
      go_ret2
      first | exact ⟨none, 0, rfl, Nat.le_refl _, Nat.zero_le _, fun h => absurd rfl h, (Below.refl _ _).alloc (Nat.le_refl _) _⟩ | exact ⟨none, 0, rfl, Nat.zero_le _, fun h => absurd rfl h, (Below.refl _ _).alloc (Nat.le_refl _) _⟩
  rw [if_neg hs] at hq
  have h1 : ¬ s < 0 := by omega
  have h2 : ¬ 255 < s := by omega
  clear hs
  by_cases hl : 32 < n
  · rw [if_pos hl] at hq
    simp only [Prod.mk.injEq] at hq
    obtain ⟨rfl, rfl⟩ := hq
    go_enter Try.func48, Try.ntmps48
    go_wp2
    go_ret2
    first | exact ⟨none, 0, rfl, Nat.le_refl _, Nat.zero_le _, fun h => absurd rfl h, (Below.refl _ _).alloc (Nat.le_refl _) _⟩ | exact ⟨none, 0, rfl, Nat.zero_le _, fun h => absurd rfl h, (Below.refl _ _).alloc (Nat.le_refl _) _⟩
  rw [if_neg hl] at hq
  simp only [Prod.mk.injEq] at hq
  obtain ⟨hx, rfl⟩ := hq
  have HX := Lib.hid hx
  clear hx
  go_enter Try.func48, Try.ntmps48
  go_upto_region 6 with (fail)
  obtain ⟨W, hW⟩ : ∃ W, w.alloc (.cells #[.int .i64 s, .slice A n c] 102) = W := ⟨_, rfl⟩
  have HBW : Hid (Below w.heap.size w W) := by rw [← hW]; exact (Below.refl _ _).alloc (Nat.le_refl _) _
  have m0 : W.cell? ⟨w.heap.size, 0, none⟩ = some (.int .i64 s) := by rw [← hW]; simp
  have m1 : W.cell? ⟨w.heap.size, 1, none⟩ = some (.slice A n c) := by rw [← hW]; simp
  have hlW : w.heap.size < W.heap.size := by rw [← hW]; simp
  rw [hW]
  clear hW
  have HAW : Hid (Rd W W.heap.size A (kcells .u8 d)) := (HA.out.below HBW.out (Nat.le_refl _)).more HBW.out.size
  go_wp2_with (at_make; refine wpList_make_full _ rfl _ _ 22 rfl W.heap.size 5 i5 (.int .u8 0) 1 Try.underlying22 hi5 hz50 hz51 .i64 .i64 ((n : Int) + 3) ((n : Int) + 3) (n + 3) rfl rfl (by push_cast; rfl) (by push_cast; rfl) ?c1 ?c2 ?c3 ?_)
  case c1 => omega
  case c2 => unfold maxLen; omega
  intro w3 hown hgrow
  have HO3 : Hid (w3.ownsRow W.heap.size 5 1 (.slice (some ⟨W.heap.size, 0, none⟩) (n + 3) (n + 3)) (n + 3) (kcells .u8 (List.replicate (n + 3) 0))) := by
    rw [← made_k, Nat.mul_one]
    exact hown
  have HB3 : Hid (Below W.heap.size W w3) := (Below.refl _ _).grown hgrow (Nat.le_refl _) (fun k hk => by cases hk)
  have p0 : w3.cell? ⟨w.heap.size, 0, none⟩ = some (.int .i64 s) := (HB3.out.cell (p := ⟨w.heap.size, 0, none⟩) hlW).trans m0
  have p1 : w3.cell? ⟨w.heap.size, 1, none⟩ = some (.slice A n c) := (HB3.out.cell (p := ⟨w.heap.size, 1, none⟩) hlW).trans m1
  have f0 : w3.cell? ⟨W.heap.size, 0, none⟩ = some (.int .u8 0) := own_k (by simp) HO3.out (by simp)
  have f1 : w3.cell? ⟨W.heap.size, 1, none⟩ = some (.int .u8 0) := own_k (by simp) HO3.out (by simp)
  have f2 : w3.frozen? ⟨W.heap.size, 0, none⟩ = false := HO3.out.frozenAt _
  have f3 : w3.frozen? ⟨W.heap.size, 1, none⟩ = false := HO3.out.frozenAt _
  have es : s % 256 = s := by omega
  have en : (n : Int) % 256 = n := by omega
  have hne : w.heap.size ≠ W.heap.size := by omega
  clear hown hgrow m0
  go_upto_region 8 with (fail)
  have HO4 : Hid (((w3.setCell ⟨W.heap.size, 0, none⟩ (.int .u8 s)).setCell ⟨W.heap.size, 1, none⟩ (.int .u8 n)).ownsRow W.heap.size 5 1 (.slice (some ⟨W.heap.size, 0, none⟩) (n + 3) (n + 3)) (n + 3) (kcells .u8 (s :: n :: List.replicate (n + 1) 0))) := by
    rw [← enc_zeros]
    exact own_set_k (own_set_k HO3.out 0 s) 1 n
  have HB4 : Hid (Below W.heap.size W ((w3.setCell ⟨W.heap.size, 0, none⟩ (.int .u8 s)).setCell ⟨W.heap.size, 1, none⟩ (.int .u8 n))) := (HB3.out.setCell (p := ⟨W.heap.size, 0, none⟩) (Nat.le_refl _) _).setCell (p := ⟨W.heap.size, 1, none⟩) (Nat.le_refl _) _
  generalize (w3.setCell ⟨W.heap.size, 0, none⟩ (.int .u8 s)).setCell ⟨W.heap.size, 1, none⟩ (.int .u8 n) = w4 at *
  clear p0 p1 f0 f1 f2 f3 HO3 HB3
  have p1 : w4.cell? ⟨w.heap.size, 1, none⟩ = some (.slice A n c) := (HB4.out.cell (p := ⟨w.heap.size, 1, none⟩) hlW).trans m1
  obtain ⟨hg, _, hmx⟩ := own_heap HO4.out (by omega)
  have HG := Lib.hid hg
  have HA4 := Lib.hid (HAW.out.below HB4.out (Nat.le_refl _))
  have HCS : Hid (∀ sp, A = sp → 0 < (kcells .u8 d).length → ∃ ad, A = some ad ∧ ∀ j v, (kcells .u8 d)[j]? = some v → w4.cell? (ad.add j) = some v) := by
    intro sp _ h
    obtain ⟨b, off, e, _, hc⟩ := HA4.out (by intro e; rw [e] at h; simp at h)
    exact ⟨_, e, fun j v hv => by rw [Addr.add_lit]; exact hc j v hv⟩
  have HLEN : Hid ((kcells .u8 d).length = Nat.min n (n + 1)) := by
    rw [Hid, kcells_length, HN.out]
    exact (Nat.min_eq_left (by omega)).symm
  have HFIT : Hid (2 + (kcells .u8 d).length ≤ (kcells .u8 (s :: n :: List.replicate (n + 1) 0)).length) := by
    rw [Hid, kcells_length, kcells_length, HN.out]
    simp; omega
  have h23 : (2 : Int) ≤ (n : Int) + 3 := by omega
  clear hg
  go_region_law (refine step_copy_splice rfl (.tmp 36) (.tmp 38) 22 22 rfl 5 Try.underlying22 size5 _ A _ _ _ _ rfl rfl W.heap.size 2 (kcells .u8 (s :: n :: List.replicate (n + 1) 0)) 5 HG.out (kcells .u8 d) HLEN.out (fun h => ⟨rfl, HCS.out A rfl h⟩) HFIT.out (kcells_one _ _) W.heap.size W (Below.drew HB4.out) (Nat.le_refl _) ?_; intro w5 hg5 hb5)
  have hlk : (kcells .u8 (s :: n :: d ++ [0])).length = n + 3 := by rw [kcells_length]; simp [HN.out]
  have HO5 : Hid (w5.ownsRow W.heap.size 5 1 (.slice (some ⟨W.heap.size, 0, none⟩) (n + 3) (n + 3)) (n + 3) (kcells .u8 (s :: n :: d ++ [0]))) :=
    own_of_heap hlk (Nat.le_refl _) hmx (by rw [← enc_splice s n d n HN.out]; exact hg5.out)
  have HB5 := Lib.hid hb5
  clear hg5 hb5 hlk HG HCS HLEN HFIT p1 HO4 HB4 HA4
  obtain ⟨A5, c5, hv5, _, _, hr5⟩ := own_read HO5.out
  injection hv5 with e1 e2 e3
  subst e1 e3
  have HR5 : Hid (Rd w5 w5.heap.size (some ⟨W.heap.size, 0, none⟩) (kcells .u8 (headF s d))) := hr5.prefix (by
    refine ⟨kcells .u8 [0], ?_⟩
    rw [← kcells_append]
    simp [headF, HN.out])
  have HBY : Hid (Bytes (headF s d)) := headF_bytes ⟨by omega, by omega⟩ (by rw [HN.out]; omega) HR.out
  have HHL : Hid ((headF s d).length = n + 2) := by rw [Hid, headF_length, HN.out]
  have hS := sumF_lt HBY.out
  have f4 : w5.cell? ⟨W.heap.size, n + 2, none⟩ = some (.int .u8 0) := own_k (by simp [HN.out]) HO5.out (by rw [List.getElem?_append_right (by simp [HN.out])]; simp [HN.out])
  have f5 : w5.frozen? ⟨W.heap.size, n + 2, none⟩ = false := HO5.out.frozenAt _
  obtain ⟨S, hSS⟩ : ∃ S, sumF (headF s d) = S := ⟨_, rfl⟩
  rw [hSS] at hS
  have HSS := Lib.hid hSS
  have eS : (S : Int) % 256 = S := by omega
  have HM2 : Hid (n + 3 ≤ maxLen) := hmx
  have i1 : (0 : Int) ≤ (n : Int) + 2 := by omega
  have i2 : (n : Int) + 2 ≤ (n : Int) + 3 := by omega
  clear hr5 hSS hmx
  go_wp2_with (fail)
  (with_reducible refine (Sum_any _ (n + 2) (n + 3) _ (headF s d) w5 HR5.out HHL.out (by omega) HM2.out HBY.out).mono ?_)
  rintro e w6 ⟨rfl, rfl⟩
  rw [HSS.out]
  go_upto_region 10 with (fail)
  have HO6 : Hid ((w5.setCell ⟨W.heap.size, n + 2, none⟩ (.int .u8 S)).ownsRow W.heap.size 5 1 (.slice (some ⟨W.heap.size, 0, none⟩) (n + 3) (n + 3)) (n + 3) (kcells .u8 x)) := by
    have := own_set_k HO5.out (n + 2) S
    rw [enc_last s n S d n HN.out] at this
    rw [← HX.out, headF, HN.out, ← HSS.out, headF, HN.out] 
    rw [← HSS.out, headF, HN.out] at this
    exact this
  have HB6 : Hid (Below w.heap.size w (w5.setCell ⟨W.heap.size, n + 2, none⟩ (.int .u8 S))) := HBW.out.trans ((HB5.out.setCell (p := ⟨W.heap.size, n + 2, none⟩) (Nat.le_refl _) _).mono (by omega))
  have HXL : Hid (x.length = n + 3) := by rw [← HX.out, Hid, List.length_append, HHL.out]; rfl
  generalize w5.setCell ⟨W.heap.size, n + 2, none⟩ (.int .u8 S) = w7 at *
  obtain ⟨A7, c7, hv7, _, _, hr7⟩ := own_read HO6.out
  injection hv7 with e1 e2 e3
  subst e1 e3
  have HR7 := Lib.hid hr7
  clear hr7
  go_wp2
  go_ret2
  exact ⟨_, n + 3, by rw [HXL.out]; rfl, by rw [HXL.out]; exact Nat.le_refl _, HM2.out, HR7.out, HB6.out⟩

end Go.Proofs.Ytjdknddnanopaaa.Bus
