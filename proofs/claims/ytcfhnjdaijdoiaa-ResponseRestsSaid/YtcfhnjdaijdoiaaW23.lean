/-
  tasks.Late.
-/
import Derived.Test.YtcfhnjdaijdoiaaW22
import Derived.Test.YtcfhnjdaijdoiaaPlain10
namespace Go.Proofs.Ytcfhnjdaijdoiaa
open Go.RowKit
set_option linter.unusedVariables false

theorem Rd.jb {w : World} {B : Nat} {A : Option Addr} {l : List Jb} (h : Rd w B A (jcells l)) {k : Nat} {x : Jb} (hx : l[k]? = some x) :
    ∃ b off, A = some ⟨b, off, none⟩ ∧ b < B ∧ w.cell? ⟨b, off + k * 4, none⟩ = some (.int .i64 x.k) ∧ w.cell? ⟨b, off + k * 4 + 1, none⟩ = some (.int .i64 x.rel) ∧
      w.cell? ⟨b, off + k * 4 + 2, none⟩ = some (.int .i64 x.st) ∧ w.cell? ⟨b, off + k * 4 + 3, none⟩ = some (.int .i64 x.fin) := by
  have g : ∀ j u, x.cells[j]? = some u → (jcells l)[k * 4 + j]? = some u := fun j u hu => flat_get Jb.cells 4 Jb.cells_length l k j x u hx hu
  have hne : jcells l ≠ [] := by
    intro e
    have := g 0 _ rfl
    rw [e] at this
    simp at this
  obtain ⟨b, off, e, hlt, hc⟩ := h hne
  refine ⟨b, off, e, hlt, ?_, ?_, ?_, ?_⟩
  · simpa using hc _ _ (g 0 _ rfl)
  · simpa [Nat.add_assoc] using hc _ _ (g 1 _ rfl)
  · simpa [Nat.add_assoc] using hc _ _ (g 2 _ rfl)
  · simpa [Nat.add_assoc] using hc _ _ (g 3 _ rfl)

theorem jcells_append (a : List Jb) (x : Jb) : jcells (a ++ [x]) = jcells a ++ x.cells := by simp [jcells]

set_option maxHeartbeats 1000000 in
theorem Late_err (A : Option Addr) (n c : Nat) (T : Int) (l : List Tsk) (w : World) (hA : Rd w w.heap.size A (tcells l)) (hn : l.length = n) (hc : n ≤ c) (hcc : c ≤ maxLen) (k : Int) (hk : givenC l T = k) (hk0 : k ≠ 0) :
    Calls Try.prog 26 #[.slice A n c, .int .i64 T] w fun e w' => e = .returned (.tuple #[.slice none 0 0, .iface 47 (.int .i64 k)]) ∧ Below w.heap.size w w' := by
  have h1 := ne_err
  go_enter Try.func26, Try.ntmps26
  go_wp2_with (fail)
  (with_reducible refine (given_any A n c T l _ hA hn hc hcc).mono ?_)
  rintro e w1 ⟨rfl, hb⟩
  rw [hk, errV_ne hk0]
  have HB := Lib.hid hb
  clear hb hk hk0 hn
  go_wp2
  go_ret2
  exact ⟨rfl, HB.out⟩

/-- What Late gives. -/
def LateEnd (l : List Tsk) (T : Nat) (w : World) (e : Ending) (w' : World) : Prop :=
  ∃ A' c', e = .returned (.tuple #[.slice A' (lateOf l T (simTo l T).2.1).length c', .nilIface]) ∧ (lateOf l T (simTo l T).2.1).length ≤ c' ∧ c' ≤ maxLen ∧
    Rd w' w'.heap.size A' (jcells (lateOf l T (simTo l T).2.1)) ∧ Below w.heap.size w w'

set_option maxHeartbeats 4000000 in
theorem Late_ok (A : Option Addr) (n c T : Nat) (l : List Tsk) (w : World) (hA : Rd w w.heap.size A (tcells l)) (hn : l.length = n) (hc : n ≤ c) (hcc : c ≤ maxLen) (hk : check l = 0) (hT : T ≤ 65536) :
    Calls Try.prog 26 #[.slice A n c, .int .i64 T] w (LateEnd l T w) := by
  have h1 := ne_nil
  obtain ⟨hg, hn8⟩ := good_of_check hk
  rw [hn] at hn8
  have HG := Lib.hid hg
  have HA := Lib.hid hA
  have HN := Lib.hid hn
  have HK := Lib.hid hk
  obtain ⟨i4, hi4, hz40, hz41, hz42⟩ := info_parts info40
  clear hA hn hk hg
  go_enter Try.func26, Try.ntmps26
  go_wp2_with (fail)
  (with_reducible refine (given_any A n c T l _ HA.out HN.out hc hcc).mono ?_)
  rintro e w1 ⟨rfl, hb⟩
  rw [givenC_ok HK.out hT, errV_zero]
  have HB := Lib.hid hb
  clear hb
  go_wp2_with (fail)
  (with_reducible refine (simulate_any A n c T l _ ((HA.out.below HB.out (Nat.le_refl _)).more HB.out.size) HN.out HK.out hT).mono ?_)
  rintro e w2 ⟨A1, c1, A2, c2, rfl, h11, h12, h21, h22, h13, h23, hb⟩
  have HB2 : Hid (Below w.heap.size w w2) := HB.out.trans (hb.mono HB.out.size)
  have hjo := jobs_ok l T
  have hwf := wf_sim HG.out (by rw [HN.out]; exact hn8) T
  have hjl := hwf.jobs_le
  obtain ⟨js, hjs⟩ : ∃ js, (simTo l T).2.1 = js := ⟨_, rfl⟩
  rw [hjs] at h21 h23 hjo hjl ⊢
  have HJS := Lib.hid hjs
  have HJO := Lib.hid hjo
  have HR := Lib.hid h23
  obtain ⟨nj, hnj⟩ : ∃ nj, js.length = nj := ⟨_, rfl⟩
  rw [hnj] at h21 hjl ⊢
  have HNJ := Lib.hid hnj
  have HO : Hid (w2.ownsRow w2.heap.size 40 4 (.slice none 0 0) (lateOf l T (js.take 0)).length (jcells (lateOf l T (js.take 0)))) := World.ownsRow_nil ..
  clear hb h11 h12 h13 h23 hjo hwf hjs hnj HB
  go_wp2
  obtain ⟨wi, rfl⟩ : ∃ wi : World, wi = w2 := ⟨_, rfl⟩
  go_loopw [9, 27] (fun o i wr => ∃ k : Nat, k ≤ nj ∧ i = .int .i64 k ∧ wr.ownsRow wi.heap.size 40 4 o (lateOf l T (js.take k)).length (jcells (lateOf l T (js.take k))) ∧ Below wi.heap.size wi wr) (fun _ i _ => nj - (intOf i).toNat)
  case atStart => exact ⟨0, Nat.zero_le _, rfl, HO.out, Below.refl _ _⟩
  case round =>
    obtain ⟨k, hk, rfl, hown, hB⟩ := hrel
    have HO2 := Lib.hid hown
    have HB5 := Lib.hid hB
    have HB3 : Hid (Below w.heap.size w wr) := HB2.out.trans (hB.mono HB2.out.size)
    have hRj : Rd wr wi.heap.size A2 (jcells js) := HR.out.below hB (Nat.le_refl _)
    have hs : wi.heap.size ≤ wr.heap.size := hB.size
    clear hown hB HO
    by_cases hlt : k < nj
    · obtain ⟨j, hj⟩ := getElem?_of_lt (l := js) (k := k) (by rw [HNJ.out]; exact hlt)
      obtain ⟨bj, oj, rfl, hbl, c0, c1, c2, c3⟩ := hRj.jb hj
      obtain ⟨⟨k1, k2⟩, ⟨r1, r2⟩, ⟨s1, s2⟩, ⟨f1, f2⟩⟩ := HJO.out j (List.mem_of_getElem? hj)
      obtain ⟨kn, hkn⟩ : ∃ kn : Nat, j.k = kn := ⟨j.k.toNat, by omega⟩
      rw [HN.out] at k2
      have hkn2 : kn < n := by omega
      obtain ⟨x, hx⟩ := getElem?_of_lt (l := l) (k := kn) (by rw [HN.out]; exact hkn2)
      obtain ⟨b, off, rfl, hbl', _, _, _, d3, _⟩ := HA.out.tsk hx
      have hxb := HG.out x (List.mem_of_getElem? hx)
      simp only [Tsk.bad, not_or, Int.not_lt] at hxb
      obtain ⟨y1, y2, y3, y4, y5, y6, y7⟩ := hxb
      have hLJ := lateJ_some (T := T) (l := l) (j := j) (x := x) (by rw [hkn, Int.toNat_natCast]; exact hx)
      have hstep := lateOf_step l T js k j hj
      have HST := Lib.hid hstep
      have hJC : Jb.cells j = [.int .i64 kn, .int .i64 j.rel, .int .i64 j.st, .int .i64 j.fin] := by rw [← hkn]; rfl
      have HJC := Lib.hid hJC
      have HD : Hid (∀ wx, Below w.heap.size w wx → wx.cell? ⟨b, off + kn * 5 + 3, none⟩ = some (.int .i64 x.d)) := fun wx hB => (hB.cell (p := ⟨b, _, none⟩) hbl').trans d3
      have hlen : (lateOf l T (js.take k)).length ≤ k := Nat.le_trans (List.length_filter_le _ _) (List.length_take_le _ _)
      rw [hkn] at c0
      have h8 : k < 1000000 := by omega
      clear hRj hx hj hstep hJC d3
      have hcase : (lateJ l T j = true ∧ (decide (j.rel + x.d < j.fin) = true ∨ (decide (j.rel + x.d < j.fin) = false ∧ decide (j.fin < 0) = true ∧ decide (j.rel + x.d ≤ (T : Int)) = true))) ∨
          (lateJ l T j = false ∧ ((decide (j.rel + x.d < j.fin) = false ∧ decide (j.fin < 0) = false) ∨ (decide (j.rel + x.d < j.fin) = false ∧ decide (j.fin < 0) = true ∧ decide (j.rel + x.d ≤ (T : Int)) = false))) := by
        rw [hLJ]
        cases decide (j.rel + x.d < j.fin) <;> cases decide (j.fin < 0) <;> cases decide (j.rel + x.d ≤ (T : Int)) <;> simp
      clear hLJ
      go_wp2
      have e0 : (wr.alloc (.cells #[.int .i64 kn, .int .i64 j.rel, .int .i64 j.st, .int .i64 j.fin] 40)).cell? ⟨wr.heap.size, 0, none⟩ = some (.int .i64 kn) := by simp
      have e1 : (wr.alloc (.cells #[.int .i64 kn, .int .i64 j.rel, .int .i64 j.st, .int .i64 j.fin] 40)).cell? ⟨wr.heap.size, 1, none⟩ = some (.int .i64 j.rel) := by simp
      have e2 : (wr.alloc (.cells #[.int .i64 kn, .int .i64 j.rel, .int .i64 j.st, .int .i64 j.fin] 40)).cell? ⟨wr.heap.size, 2, none⟩ = some (.int .i64 j.st) := by simp
      have e3 : (wr.alloc (.cells #[.int .i64 kn, .int .i64 j.rel, .int .i64 j.st, .int .i64 j.fin] 40)).cell? ⟨wr.heap.size, 3, none⟩ = some (.int .i64 j.fin) := by simp
      have HB4 : Hid (Below wi.heap.size wi (wr.alloc (.cells #[.int .i64 kn, .int .i64 j.rel, .int .i64 j.st, .int .i64 j.fin] 40))) := HB5.out.alloc hs _
      have hf := HD.out _ (HB3.out.trans ((Below.refl wr.heap.size wr).alloc (Nat.le_refl _) (.cells #[.int .i64 kn, .int .i64 j.rel, .int .i64 j.st, .int .i64 j.fin] 40) |>.mono HB3.out.size))
      have HO4 := Lib.hid (HO2.out.alloc (.cells #[.int .i64 kn, .int .i64 j.rel, .int .i64 j.st, .int .i64 j.fin] 40))
      generalize wr.alloc (.cells #[.int .i64 kn, .int .i64 j.rel, .int .i64 j.st, .int .i64 j.fin] 40) = W1 at *
      have hs1 : wi.heap.size ≤ W1.heap.size := HB4.out.size
      clear c0 c1 c2 c3 HO2 HB5 HB3
      rcases hcase with ⟨HLJ, hcase⟩ | ⟨HLJ, hcase⟩
      · have HM : Hid (lateOf l T (js.take (k + 1)) = lateOf l T (js.take k) ++ [j]) := by
          have := HST.out
          rw [if_pos HLJ] at this
          exact this
        clear HST HLJ
        rcases hcase with g1 | ⟨g1, g2, g3⟩ <;> (
          go_quiet (fail)
          have HB6 : Hid (Below wi.heap.size wi (W1.drewN nq)) := Below.drewN HB4.out nq
          have HO6 : Hid ((W1.drewN nq).ownsRow wi.heap.size 40 4 u9 (lateOf l T (js.take k)).length (jcells (lateOf l T (js.take k)))) := HO4.out
          have e0' : (W1.drewN nq).cell? ⟨wr.heap.size, 0, none⟩ = some (.int .i64 kn) := e0
          have e1' : (W1.drewN nq).cell? ⟨wr.heap.size, 1, none⟩ = some (.int .i64 j.rel) := e1
          have e2' : (W1.drewN nq).cell? ⟨wr.heap.size, 2, none⟩ = some (.int .i64 j.st) := e2
          have e3' : (W1.drewN nq).cell? ⟨wr.heap.size, 3, none⟩ = some (.int .i64 j.fin) := e3
          have hs2 : wi.heap.size ≤ (W1.drewN nq).heap.size := hs1
          clear e0 e1 e2 e3 hf HB4 HO4 hs1
          generalize W1.drewN nq = W2 at *
          go_wp2_with (at_builtin; refine wpList_append_own _ rfl _ _ 36 rfl wi.heap.size 40 i4 _ 4 32 Try.underlying36 hi4 hz40 hz41 hz42 rfl (by omega) _ _ _ rfl (HO6.out.alloc _) ⟨W2.heap.size, 0, none⟩ 1 1 j.cells rfl rfl (cells_new W2 _ _ _ HJC.out.symm) (jb_one j) ?c3 ?c4 ?c5 ?_)
          case c3 => unfold maxLen; omega
          case c4 => omega
          case c5 => simp; omega
          intro v' w3 hown3 hgrow3 _
          have HO5 : Hid (w3.ownsRow wi.heap.size 40 4 v' (lateOf l T (js.take (k + 1))).length (jcells (lateOf l T (js.take (k + 1))))) := by
            rw [HM.out, jcells_append, List.length_append]
            exact hown3
          have HB7 : Hid (Below wi.heap.size wi w3) := (HB6.out.alloc hs2 _).grown hgrow3 (by simp; omega) (fun k hk => (HO6.out.lt k hk).1)
          clear hown3 hgrow3
          go_wp2
          go_roundw
          case rel => exact ⟨k + 1, by omega, by go_num, HO5.out, HB7.out⟩
          case measure => simp [intOf]; omega)
      · have HM : Hid (lateOf l T (js.take (k + 1)) = lateOf l T (js.take k)) := by
          have := HST.out
          rw [if_neg (by simp [HLJ])] at this
          exact this
        clear HST HLJ
        rcases hcase with ⟨g1, g2⟩ | ⟨g1, g2, g3⟩ <;> (
          go_quiet (fail)
          go_wp2
          go_roundw
          case rel => exact ⟨k + 1, by omega, by go_num, by rw [HM.out]; exact HO4.out, Below.drewN HB4.out _⟩
          case measure => simp [intOf]; omega)
    · have hkn : k = nj := by omega
      subst hkn
      have HT : Hid (js.take k = js) := List.take_of_length_le (by rw [HNJ.out]; exact Nat.le_refl _)
      have HE : Hid (∃ A c, u9 = .slice A (lateOf l T js).length c ∧ (lateOf l T js).length ≤ c ∧ c ≤ maxLen ∧ Rd wr wr.heap.size A (jcells (lateOf l T js))) := by
        have := own_read HO2.out
        rw [HT.out] at this
        exact this
      obtain ⟨A', c', rfl, g1, g2, g3⟩ := HE.out
      have HG3 := Lib.hid g3
      clear HE g3 hRj HT
      obtain ⟨nl, hnl⟩ : ∃ nl, (lateOf l T js).length = nl := ⟨_, rfl⟩
      have HNL := Lib.hid hnl
      rw [hnl] at g1 ⊢
      clear hnl
      go_wp2
      go_ret2
      unfold LateEnd
      rw [HJS.out, HNL.out]
      exact ⟨A', c', rfl, g1, g2, HG3.out, HB3.out⟩
end Go.Proofs.Ytcfhnjdaijdoiaa
