
/-
  The reference's flash: Read, SetFuse.
-/
import Derived.Test.YtjdknddnanopaaaRW18
namespace Go.Proofs.Ytjdknddnanopaaa
open Go.RowKit
set_option linter.unusedVariables false

theorem RdX.setCell {X : Nat → Prop} {w : World} {A : Option Addr} {xs : List Value} (h : RdX X w A xs) (p : Addr) (u : Value) (hp : X p.block) : RdX X (w.setCell p u) A xs := fun hx => by
  obtain ⟨b, off, e, hlt, hn, hc⟩ := h hx
  exact ⟨b, off, e, by simpa [World.setCell] using hlt, hn, fun j v hv => (cell_of_block (Below.heap_setCell _ _ _ _ (by intro e2; exact hn (e2 ▸ hp)))).trans (hc j v hv)⟩
theorem RdX.weak {X Y : Nat → Prop} {w : World} {A : Option Addr} {xs : List Value} (h : RdX X w A xs) (hX : ∀ b, Y b → X b) : RdX Y w A xs := fun hx => by
  obtain ⟨b, off, e, hlt, hn, hc⟩ := h hx
  exact ⟨b, off, e, hlt, fun hy => hn (hX b hy), hc⟩

set_option maxRecDepth 100000 in
set_option maxHeartbeats 4000000 in
theorem readR_any {X : Nat → Prop} {w : World} {x : Rc} {g : Fl} (h : RAt X w x g) (hX : ∀ b, X b → b < w.heap.size) (page : Int) :
    Calls Try.prog 103 #[x.v g, .int .i64 page] w fun e w' => ∃ A' n' c', e = .returned (.tuple #[.slice A' n' c', .int .i64 (readF g page).2]) ∧ (readF g page).1.length = n' ∧ n' ≤ c' ∧ c' ≤ maxLen ∧ RdX X w' A' (kcells .u8 (readF g page).1) ∧ Below w.heap.size w w' := by
  have hil := h.img_len
  have hlen := h.ok.len
  have hc1 := h.a1
  have hc2 := h.a2
  have H := Lib.hid h
  have HX := Lib.hid hX
  obtain ⟨NI, hNI⟩ : ∃ n, g.img.length = n := ⟨_, rfl⟩
  have HNI := Lib.hid hNI
  obtain ⟨T, hT⟩ : ∃ T, g.wear.length * g.pg = T := ⟨_, rfl⟩
  have HT := Lib.hid hT
  rw [hT] at hlen
  rw [hNI] at hlen hil hc1
  obtain ⟨A, c, B, d, P, r⟩ := x
  simp only at hc1 hc2
  unfold maxLen at hc2
  have hq1 : (NI : Int) / 64 = (T : Int) := by omega
  have hq2 : (NI : Int).tdiv 64 = (T : Int) := by rw [Int.tdiv_eq_ediv_of_nonneg (by omega)]; exact hq1
  have hTb : T ≤ 1024 := by omega
  show Calls Try.prog 103 #[.agg #[.slice A g.img.length c, .int .i64 g.pg, .slice B g.wear.length d, .bool g.down, .int .i64 g.fuse, .slice P g.picks.length r], _] w _
  rw [hNI]
  have HLEN := Lib.hid hlen
  clear h hX hNI hT hlen
  by_cases hd : g.down = true
  · have hr : readF g page = ([], 20) := by unfold readF atF; rw [if_pos hd]; rfl
    rw [hr, hd]
    clear hr hd
    go_enter Try.func103, Try.ntmps103
    go_wp2
    go_ret2
    exact ⟨none, 0, 0, rfl, rfl, Nat.le_refl _, Nat.zero_le _, RdX.nil, below_one _ _⟩
  · have hd' : g.down = false := by simpa using hd
    rw [hd']
    by_cases hp : page < 0 ∨ (T : Int) ≤ page
    · have hr : readF g page = ([], 10) := by unfold readF atF; rw [if_neg hd, HT.out, if_pos hp]; rfl
      rw [hr]
      clear hr hd hd'
      by_cases h0 : page < 0
      · clear hp
        go_enter Try.func103, Try.ntmps103
        go_wp2
        go_ret2
        exact ⟨none, 0, 0, rfl, rfl, Nat.le_refl _, Nat.zero_le _, RdX.nil, below_one _ _⟩
      · have hp2 : (T : Int) ≤ page := by omega
        have h0' : decide (page < 0) = false := by simpa using h0
        clear hp h0
        go_enter Try.func103, Try.ntmps103
        go_wp2
        go_ret2
        exact ⟨none, 0, 0, rfl, rfl, Nat.le_refl _, Nat.zero_le _, RdX.nil, below_one _ _⟩
    · obtain ⟨p, rfl⟩ : ∃ p : Nat, page = (p : Int) := ⟨page.toNat, by omega⟩
      have hpT : p < T := by omega
      have hr : readF g (p : Int) = (pageF g p, 0) := by unfold readF atF; rw [if_neg hd, HT.out, if_neg hp]; simp only [Int.toNat_natCast]; rfl
      rw [hr]
      have hpl : (pageF g p).length = 64 := by unfold pageF; rw [List.length_take, List.length_drop, HNI.out]; have := HLEN.out; omega
      have HPL := Lib.hid hpl
      obtain ⟨V, hV⟩ : ∃ V, w.alloc (.cells #[.slice A NI c, .int .i64 g.pg, .slice B g.wear.length d, .bool false, .int .i64 g.fuse, .slice P g.picks.length r] 37) = V := ⟨_, rfl⟩
      have HBV : Hid (Below w.heap.size w V) := by rw [← hV]; exact below_one _ _
      have v0 : V.cell? ⟨w.heap.size, 0, none⟩ = some (.slice A NI c) := by rw [← hV]; exact cell_new_at _ _ _ _ _ _ rfl rfl
      have v3 : V.cell? ⟨w.heap.size, 3, none⟩ = some (.bool false) := by rw [← hV]; exact cell_new_at _ _ _ _ _ _ rfl rfl
      have v0b : (V.alloc (.cells #[] 5)).cell? ⟨w.heap.size, 0, none⟩ = some (.slice A NI c) := (((Below.refl V.heap.size V).alloc (Nat.le_refl _) _).cell (p := ⟨w.heap.size, 0, none⟩) (World.block_lt_of_cell? V _ v0)).trans v0
      have hRA : Rd w w.heap.size A (kcells .u8 g.img) := H.out.a.rd
      have hA : ∃ bb off, A = some ⟨bb, off, none⟩ := by
        obtain ⟨b, off, e, _⟩ := hRA (by
          intro e
          have := congrArg List.length e
          rw [kcells_length, HNI.out] at this
          simp at this
          have := HLEN.out
          omega)
        exact ⟨b, off, e⟩
      obtain ⟨bb, off, rfl⟩ := hA
      have HRP : Hid (Rd w w.heap.size (some ⟨bb, off + 64 * p, none⟩) (kcells .u8 (pageF g p))) := hRA.part (64 * p) 64
      have HKL : Hid ((kcells .u8 (pageF g p)).length = 64 * 1) := by rw [Hid, kcells_length, hpl]
      obtain ⟨i5, hi5, hz50, hz51, hz52⟩ := info_parts info5
      have hm0 : 0 ≤ maxLen := Nat.zero_le _
      have hp0 : decide ((p : Int) < 0) = false := by simp
      have hp1 : decide (T ≤ p) = false := by simp; omega
      have hhi : 64 * p + 64 ≤ NI := by have := HLEN.out; omega
      have k1 : 64 * (p : Int) ≤ 64 * (p : Int) + 64 := by omega
      have k2 : 64 * (p : Int) + 64 ≤ (c : Int) := by omega
      have k3 : (0 : Int) ≤ 64 * (p : Int) := by omega
      have k4 : (64 * (p : Int)).toNat = 64 * p := by omega
      have k5 : (64 * (p : Int) + 64).toNat = 64 * p + 64 := by omega
      have k6 : ¬ (c = 64 * p) := by omega
      clear hr hd hd' hp hpl hRA
      go_enter Try.func103, Try.ntmps103
      go_wp2_with (first | (at_builtin; refine wpList_append_rd _ rfl _ _ 22 rfl V.heap.size 5 i5 (.int .u8 0) 1 1 Try.underlying22 hi5 hz50 hz51 hz52 rfl (by omega) _ 0 [] rfl (World.ownsRow_lit V #[] 0 (Nat.le_refl _) hm0 rfl) w.heap.size _ 64 _ (kcells .u8 (pageF g p)) rfl (HRP.out.below (HBV.out.alloc HBV.out.size _) (Nat.le_refl _)) HKL.out (kcells_one _ _) (by unfold maxLen; omega) (by omega) (by simp) ?_))
      intro v' w2 hown hgrow hat
      have HB2 : Hid (Below V.heap.size V w2) := ((Below.refl V.heap.size V).alloc (Nat.le_refl _) _).grown hgrow (by simp) (fun k hk => by have hk' : some V.heap.size = some k := hk; injection hk'; omega)
      try simp only [Nat.zero_add, List.nil_append] at hown
      obtain ⟨A2, c2, rfl, hc21, hc22, hr2⟩ := own_read hown
      have HO := Lib.hid hown
      clear hown hgrow hat hr2
      go_wp2
      go_ret2
      exact ⟨A2, 64, c2, rfl, HPL.out, hc21, hc22, RdX.new HX.out HBV.out.size (by rw [kcells_length]; exact HPL.out) HO.out, HBV.out.trans (HB2.out.mono HBV.out.size)⟩
end Go.Proofs.Ytjdknddnanopaaa
