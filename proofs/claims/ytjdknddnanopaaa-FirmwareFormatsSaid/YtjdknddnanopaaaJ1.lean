/-
  The reference of layer 52: region, spec, size, page.
-/
import Derived.Test.YtjdknddnanopaaaF5
import Derived.Test.YtjdknddnanopaaaRW72
namespace Go.Proofs.Ytjdknddnanopaaa
open Go.RowKit
set_option linter.unusedVariables false
set_option linter.unusedSimpArgs false

set_option maxRecDepth 100000 in
set_option maxHeartbeats 1000000 in
theorem rspec_r (n : Nat) (hn : n ≤ 1000000) (w : World) : Calls Try.prog 60 #[.int .i64 (n : Int)] w fun e w' => ∃ A c, e = .returned (.slice A 9 c) ∧ 9 ≤ c ∧ c ≤ maxLen ∧ Rd w' w'.heap.size A (pcells (fwSpec n)) ∧ Below w.heap.size w w' := by
  obtain ⟨i9, hi9, hz90, hz91, hz92⟩ := info_parts info99
  have h3 : (3 : Nat) ≤ maxLen := by unfold maxLen; omega
  go_enter Try.func60, Try.ntmps60
  go_wp2
  obtain ⟨W, hW⟩ : ∃ W, w.alloc (.cells #[.int .i64 0, .int .i64 1, .int .i64 0, .int .i64 0, .int .i64 2, .int .i64 2, .int .i64 0, .int .i64 3, .int .i64 0] 141) = W := ⟨_, rfl⟩
  have HBW : Hid (Below w.heap.size w W) := by rw [← hW]; exact (Below.refl _ _).alloc (Nat.le_refl _) _
  have HOW : Hid (W.ownsRow w.heap.size 141 3 (.slice (some ⟨w.heap.size, 0, none⟩) 3 3) 3 (pcells ((fwSpec n).take 3))) := by
    rw [← hW]
    exact World.ownsRow_lit w #[.int .i64 0, .int .i64 1, .int .i64 0, .int .i64 0, .int .i64 2, .int .i64 2, .int .i64 0, .int .i64 3, .int .i64 0] 3 (Nat.le_refl _) h3 rfl
  rw [hW]
  clear hW
  go_loopw [3, 8] (fun v i wr => ∃ j : Nat, j ≤ 2 ∧ i = .int .i64 j ∧ wr.ownsRow w.heap.size 141 3 v (3 + 3 * j) (pcells ((fwSpec n).take (3 + 3 * j))) ∧ Below w.heap.size w wr) (fun _ i _ => 2 - (intOf i).toNat)
  case atStart => exact ⟨0, by omega, rfl, HOW.out, HBW.out⟩
  case round =>
    obtain ⟨j, hj, rfl, hO, hB⟩ := hrel
    obtain ⟨A1, c1, rfl, h4, h5, h6⟩ := own_form hO
    have HO := Lib.hid hO
    have HB := Lib.hid hB
    clear hO hB h6
    by_cases hlt : j < 2
    · have HRD := Lib.hid (Rd.new wr #[.int .i64 0, .int .i64 1073741824, .int .i64 0, .int .i64 0, .int .i64 n, .int .i64 0, .int .i64 0, .int .i64 4294967295, .int .i64 0] 141 (pcells (roundP n)) rfl)
      have HO2 : Hid ((wr.alloc (.cells #[.int .i64 0, .int .i64 1073741824, .int .i64 0, .int .i64 0, .int .i64 n, .int .i64 0, .int .i64 0, .int .i64 4294967295, .int .i64 0] 141)).ownsRow w.heap.size 141 3 (.slice A1 (3 + 3 * j) c1) (3 + 3 * j) (pcells ((fwSpec n).take (3 + 3 * j)))) := own_below HO.out ((Below.refl _ _).alloc (Nat.le_refl _) _)
      have HFR := Lib.hid (fw_round n j hlt)
      have HBS : Hid (w.heap.size ≤ wr.heap.size) := HB.out.size
      go_wp2_with (at_builtin; refine wpList_append_rd _ rfl _ _ 43 rfl w.heap.size 141 i9 (.agg #[.int .i64 0, .int .i64 0, .int .i64 0]) 3 24 Try.underlying43 hi9 hz90 hz91 hz92 rfl (by omega) _ (3 + 3 * j) (pcells ((fwSpec n).take (3 + 3 * j))) rfl HO2.out (wr.heap.size + 1) _ 3 3 (pcells (roundP n)) rfl HRD.out rfl (pcells_one _) (by unfold maxLen; omega) (by omega) (by rw [World.size_alloc]; have := HBS.out; omega) ?_)
      intro v' w2 hown hgrow hat
      have HB2 : Hid (Below w.heap.size w w2) := (HB.out.alloc HB.out.size _).grown hgrow (by rw [World.size_alloc]; have := HBS.out; omega) (fun k hk => (HO2.out.lt k hk).1)
      rw [← pcells_append, ← HFR.out] at hown
      have HO3 := Lib.hid hown
      clear hown hgrow hat
      go_wp2
      go_roundw
      case rel => exact ⟨j + 1, by omega, by go_num, HO3.out, HB2.out⟩
      case measure => simp [intOf]; omega
    · have hj2 : j = 2 := by omega
      subst hj2
      have H4 : Hid (3 + 3 * 2 ≤ c1) := h4
      have H5 := Lib.hid h5
      clear h4 h5
      go_wp2
      go_ret
      exact ⟨A1, c1, rfl, H4.out, H5.out, own_rd HO.out, HB.out⟩


set_option maxRecDepth 100000 in
set_option maxHeartbeats 1000000 in
/-- A page with bytes, filled up. -/
theorem rfull_r (A : Option Addr) (n c : Nat) (b : List Int) (w : World) (hA : Rd w w.heap.size A (kcells .u8 b)) (hn : b.length = n) (hm : n ≤ 64) :
    Calls Try.prog 72 #[.slice A n c] w fun e w' => ∃ A' c', e = .returned (.slice A' 64 c') ∧ w'.ownsRow w.heap.size 5 1 (.slice A' 64 c') 64 (kcells .u8 (padB b)) ∧ Below w.heap.size w w' := by
  obtain ⟨i5, hi5, hz50, hz51, hz52⟩ := info_parts info5
  have HP : Hid (padB b = b ++ List.replicate (64 - n) 255) := by rw [Hid]; unfold padB; rw [hn]
  have HN := Lib.hid hn
  have HA := Lib.hid hA
  have hm0 : 0 ≤ maxLen := Nat.zero_le _
  clear hA hn
  go_enter Try.func72, Try.ntmps72
  go_wp2_with (first | (at_builtin; refine wpList_append_rd _ rfl _ _ 22 rfl w.heap.size 5 i5 (.int .u8 0) 1 1 Try.underlying22 hi5 hz50 hz51 hz52 rfl (by omega) _ 0 [] rfl (World.ownsRow_lit w #[] 0 (Nat.le_refl _) hm0 rfl) w.heap.size _ n _ (kcells .u8 b) rfl (HA.out.below ((Below.refl _ _).alloc (Nat.le_refl _) _) (Nat.le_refl _)) (by rw [kcells_length, HN.out, Nat.mul_one]) (kcells_one _ _) (by unfold maxLen; omega) (by omega) (by simp) ?_))
  intro v1 w1 hown hgrow hat
  have HB1 : Hid (Below w.heap.size w w1) := ((Below.refl w.heap.size w).alloc (Nat.le_refl _) _).grown hgrow (by simp) (fun k hk => by have hk' : some w.heap.size = some k := hk; injection hk'; omega)
  try simp only [Nat.zero_add, List.nil_append] at hown
  have HO1 := Lib.hid hown
  clear hown hgrow hat
  go_wp2
  go_loopw [3] (fun v wr => ∃ j : Nat, n + j ≤ 64 ∧ wr.ownsRow w.heap.size 5 1 v (n + j) (kcells .u8 (b ++ List.replicate j 255)) ∧ Below w.heap.size w wr) (fun v _ => 64 - (match v with | .slice _ m _ => m | _ => 0))
  case atStart => exact ⟨0, by omega, by simpa using HO1.out, HB1.out⟩
  case round =>
    obtain ⟨j, hj, hO, hB⟩ := hrel
    obtain ⟨A1, c1, rfl, h1, h2, h3⟩ := own_form hO
    have HO := Lib.hid hO
    have HB := Lib.hid hB
    clear hO hB h3
    by_cases hlt : n + j < 64
    · have HRD := Lib.hid (Rd.new wr #[.int .u8 255] 5 (kcells .u8 [255]) rfl)
      have HO2 : Hid ((wr.alloc (.cells #[.int .u8 255] 5)).ownsRow w.heap.size 5 1 (.slice A1 (n + j) c1) (n + j) (kcells .u8 (b ++ List.replicate j 255))) := own_below HO.out ((Below.refl _ _).alloc (Nat.le_refl _) _)
      have HBS : Hid (w.heap.size ≤ wr.heap.size) := HB.out.size
      have HRS : Hid (b ++ List.replicate (j + 1) 255 = b ++ List.replicate j 255 ++ [255]) := by rw [Hid, List.append_assoc, ← List.replicate_succ']
      go_wp2_with (at_builtin; refine wpList_append_rd _ rfl _ _ 22 rfl w.heap.size 5 i5 (.int .u8 0) 1 1 Try.underlying22 hi5 hz50 hz51 hz52 rfl (by omega) _ (n + j) (kcells .u8 (b ++ List.replicate j 255)) rfl HO2.out (wr.heap.size + 1) _ 1 1 (kcells .u8 [255]) rfl HRD.out rfl (kcells_one _ _) (by unfold maxLen; omega) (by omega) (by rw [World.size_alloc]; have := HBS.out; omega) ?_)
      intro v' w2 hown hgrow hat
      have HB2 : Hid (Below w.heap.size w w2) := (HB.out.alloc HB.out.size _).grown hgrow (by rw [World.size_alloc]; have := HBS.out; omega) (fun k hk => (HO2.out.lt k hk).1)
      rw [← kcells_append, ← HRS.out] at hown
      obtain ⟨A2, c2, rfl, h4, h5, h6⟩ := own_form hown
      have HO3 := Lib.hid hown
      clear hown hgrow hat h6
      go_wp2
      go_roundw
      case rel => exact ⟨j + 1, by omega, HO3.out, HB2.out⟩
      case measure => simp; omega
    · have hj2 : n + j = 64 := by omega
      have HE : Hid (j = 64 - n) := by rw [Hid]; omega
      rw [hj2] at HO ⊢
      clear h1 h2
      go_wp2
      go_ret
      exact ⟨A1, c1, rfl, by have := HO.out; rw [HE.out, ← HP.out] at this; exact this, HB.out⟩

section
variable {X : Nat → Prop} {w : World} {x : Rc} {g : Fl}
theorem rsize_r (h : RAt X w x g) (k : Nat) (hk : k ≤ 8) (bl : Int) (hbl : bl = ((2 * k + 2 : Nat) : Int)) (w2 : World) :
    Calls Try.prog 61 #[x.v g, .int .i64 bl] w2 fun e w' => e = .returned (.int .i64 (sizeF g (2 * k + 2) : Nat)) ∧ Below w2.heap.size w2 w' := by
  have hpg : g.pg ≤ 16 := h.ok.p2
  have HS : Hid (((sizeF g (2 * k + 2) : Nat) : Int) = (k : Int) * (g.pg : Int) * 64) := by
    rw [Hid]; unfold sizeF
    rw [show (2 * k + 2 - 2) / 2 = k by omega]
    push_cast
    rfl
  have h1 : (k : Int) * (g.pg : Int) ≤ 128 := by
    have h2 := Nat.mul_le_mul hk hpg
    have h3 : ((k * g.pg : Nat) : Int) ≤ 128 := by omega
    push_cast at h3
    exact h3
  have h0 : (0 : Int) ≤ (k : Int) * (g.pg : Int) := Int.mul_nonneg (by omega) (by omega)
  have q1 : (bl - 2).tdiv 2 = k := by rw [hbl, Int.tdiv_eq_ediv_of_nonneg (by omega)]; omega
  have q1' : (bl - 2) / 2 = k := by rw [hbl]; omega
  have q0 : IntKind.i64.wrap (bl - 2) = bl - 2 := IntWalk.i64_in _ (by omega)
  have q2 : IntKind.i64.wrap ((k : Int) * (g.pg : Int)) = (k : Int) * (g.pg : Int) := IntWalk.i64_in _ (by omega)
  have q3 : IntKind.i64.wrap ((k : Int) * (g.pg : Int) * 64) = (k : Int) * (g.pg : Int) * 64 := IntWalk.i64_in _ (by omega)
  have hb0 : 4 ≤ bl + 2 ∧ bl ≤ 18 := by omega
  obtain ⟨hb1, hb2⟩ := hb0
  have HBL := Lib.hid hbl
  obtain ⟨B, cc, D, d, P, r⟩ := x
  show Calls Try.prog 61 #[.agg #[.slice B g.img.length cc, .int .i64 g.pg, .slice D g.wear.length d, .bool g.down, .int .i64 g.fuse, .slice P g.picks.length r], _] w2 _
  obtain ⟨n1, e1⟩ : ∃ n, g.img.length = n := ⟨_, rfl⟩
  obtain ⟨n2, e2⟩ : ∃ n, g.wear.length = n := ⟨_, rfl⟩
  obtain ⟨n3, e3⟩ : ∃ n, g.picks.length = n := ⟨_, rfl⟩
  rw [e1, e2, e3]
  generalize g.pg = P0 at *
  generalize g.down = dn at *
  generalize g.fuse = fu at *
  clear h hbl e1 e2 e3
  go_enter Try.func61, Try.ntmps61
  go_wp2
  go_ret
  exact ⟨by rw [HS.out]; rfl, below_one _ _⟩
theorem rpage_r (h : RAt X w x g) (k a s : Nat) (hk : k ≤ 8) (hs : s ≤ 1) (ha : a ≤ 64) (fi bl si : Int) (hfi : fi = a) (hbl : bl = ((2 * k + 2 : Nat) : Int)) (hsi : si = s) (w2 : World) :
    Calls Try.prog 71 #[x.v g, .int .i64 fi, .int .i64 bl, .int .i64 si] w2 fun e w' => e = .returned (.int .i64 (((a + 2 + s * k) * g.pg : Nat) : Int)) ∧ Below w2.heap.size w2 w' := by
  have hpg : g.pg ≤ 16 := h.ok.p2
  have hsk : s * k ≤ 8 := by have := Nat.mul_le_mul hs hk; omega
  obtain ⟨T, hT⟩ : ∃ T, s * k = T := ⟨_, rfl⟩
  rw [hT] at hsk
  have q1 : si * (bl - 2) = 2 * (T : Int) := by
    rw [hsi, hbl, ← hT]
    rw [show ((2 * k + 2 : Nat) : Int) - 2 = 2 * (k : Int) by omega]
    push_cast
    rw [Int.mul_left_comm]
  have q0 : IntKind.i64.wrap (bl - 2) = bl - 2 := IntWalk.i64_in _ (by omega)
  have q2 : IntKind.i64.wrap (si * (bl - 2)) = 2 * (T : Int) := by rw [q1]; exact IntWalk.i64_in _ (by omega)
  have q3 : (2 * (T : Int)).tdiv 2 = T := by rw [Int.tdiv_eq_ediv_of_nonneg (by omega)]; omega
  have q3' : (2 * (T : Int)) / 2 = T := by omega
  have q4 : IntKind.i64.wrap (fi + 2) = fi + 2 := IntWalk.i64_in _ (by omega)
  have q5 : IntKind.i64.wrap (fi + 2 + (T : Int)) = fi + 2 + (T : Int) := IntWalk.i64_in _ (by omega)
  have h1 : (fi + 2 + (T : Int)) * (g.pg : Int) = (((a + 2 + T) * g.pg : Nat) : Int) := by rw [hfi]; push_cast; rfl
  have h2 : (a + 2 + T) * g.pg ≤ 74 * 16 := Nat.mul_le_mul (by omega) hpg
  have q6 : IntKind.i64.wrap ((fi + 2 + (T : Int)) * (g.pg : Int)) = (fi + 2 + (T : Int)) * (g.pg : Int) := IntWalk.i64_in _ (by rw [h1]; omega)
  have hfi2 : 0 ≤ fi ∧ fi ≤ 64 := by omega
  obtain ⟨hf1, hf2⟩ := hfi2
  have HR := Lib.hid h1
  rw [hT]
  obtain ⟨B, cc, D, d, P, r⟩ := x
  show Calls Try.prog 71 #[.agg #[.slice B g.img.length cc, .int .i64 g.pg, .slice D g.wear.length d, .bool g.down, .int .i64 g.fuse, .slice P g.picks.length r], _, _, _] w2 _
  obtain ⟨n1, e1⟩ : ∃ n, g.img.length = n := ⟨_, rfl⟩
  obtain ⟨n2, e2⟩ : ∃ n, g.wear.length = n := ⟨_, rfl⟩
  obtain ⟨n3, e3⟩ : ∃ n, g.picks.length = n := ⟨_, rfl⟩
  rw [e1, e2, e3]
  generalize g.pg = P0 at *
  generalize g.down = dn at *
  generalize g.fuse = fu at *
  clear h hfi hbl hsi e1 e2 e3 h1 h2 hT hs hk ha
  go_enter Try.func71, Try.ntmps71
  go_wp2
  go_ret
  exact ⟨by rw [← HR.out]; rfl, below_one _ _⟩
theorem rregion_r (h : RAt X w x g) (first blocks : Int) (hf1 : I64 first) (hb1 : I64 blocks) (w2 : World) :
    Calls Try.prog 58 #[x.v g, .int .i64 first, .int .i64 blocks] w2 fun e w' => e = .returned (.int .i64 (regE g first blocks)) ∧ Below w2.heap.size w2 w' := by
  have hwl : g.wear.length ≤ 64 := h.ok.b2
  have hpg : g.pg ≤ 16 := h.ok.p2
  obtain ⟨B, cc, D, d, P, r⟩ := x
  show Calls Try.prog 58 #[.agg #[.slice B g.img.length cc, .int .i64 g.pg, .slice D g.wear.length d, .bool g.down, .int .i64 g.fuse, .slice P g.picks.length r], _, _] w2 _
  have HR := Lib.hid (rfl : regE g first blocks = regE g first blocks)
  obtain ⟨n1, e1⟩ : ∃ n, g.img.length = n := ⟨_, rfl⟩
  obtain ⟨N, hN⟩ : ∃ N, g.wear.length = N := ⟨_, rfl⟩
  obtain ⟨n3, e3⟩ : ∃ n, g.picks.length = n := ⟨_, rfl⟩
  obtain ⟨P0, hP⟩ : ∃ P, g.pg = P := ⟨_, rfl⟩
  obtain ⟨fu, hfu⟩ : ∃ P, g.fuse = P := ⟨_, rfl⟩
  obtain ⟨dn, hdn⟩ : ∃ P, g.down = P := ⟨_, rfl⟩
  unfold I64 at hf1 hb1
  rw [hN] at hwl
  rw [hP] at hpg
  unfold regE
  rw [e1, hN, e3, hP, hfu, hdn]
  clear h HR e1 hN e3 hP hfu hdn
  by_cases hd : dn = true
  · rw [if_pos hd]
    subst hd
    go_enter Try.func58, Try.ntmps58
    go_wp2
    go_ret
    exact ⟨rfl, below_one _ _⟩
  have hd' : dn = false := by simpa using hd
  rw [if_neg hd]
  subst hd'
  clear hd
  by_cases hb : blocks % 2 ≠ 0 ∨ blocks < 4 ∨ 18 < blocks
  · rw [if_pos hb]
    by_cases h4 : blocks < 4
    · clear hb
      go_enter Try.func58, Try.ntmps58
      go_wp2
      go_ret
      exact ⟨rfl, below_one _ _⟩
    by_cases h18 : 18 < blocks
    · clear hb
      go_enter Try.func58, Try.ntmps58
      go_wp2
      go_ret
      exact ⟨rfl, below_one _ _⟩
    have hm : blocks % 2 ≠ 0 := by omega
    rcases (tmod_two blocks).2 hm with ht | ht
    all_goals
      clear hb hm
      go_enter Try.func58, Try.ntmps58
      go_wp2
      go_ret
      exact ⟨rfl, below_one _ _⟩
  rw [if_neg hb]
  have hb2 : blocks % 2 = 0 ∧ ¬ blocks < 4 ∧ ¬ 18 < blocks := by omega
  have ht := (tmod_two blocks).1 hb2.1
  obtain ⟨hb20, hb21, hb22⟩ := hb2
  have hsub : IntKind.i64.wrap ((N : Int) - blocks) = (N : Int) - blocks := IntWalk.i64_in _ (by omega)
  clear hb
  by_cases hi : first < 0
  · rw [if_pos (.inl hi)]
    go_enter Try.func58, Try.ntmps58
    go_wp2
    go_ret
    exact ⟨rfl, below_one _ _⟩
  by_cases hi2 : (N : Int) - blocks < first
  · rw [if_pos (.inr hi2)]
    go_enter Try.func58, Try.ntmps58
    go_wp2
    go_ret
    exact ⟨rfl, below_one _ _⟩
  rw [if_neg (by omega)]
  by_cases hp : P0 < 2
  · rw [if_pos hp]
    have hp2 : (P0 : Int) < 2 := by omega
    go_enter Try.func58, Try.ntmps58
    go_wp2
    go_ret
    exact ⟨rfl, below_one _ _⟩
  · rw [if_neg hp]
    have hp2 : ¬ (P0 : Int) < 2 := by omega
    go_enter Try.func58, Try.ntmps58
    go_wp2
    go_ret
    exact ⟨rfl, below_one _ _⟩
end
end Go.Proofs.Ytjdknddnanopaaa
