/-
  Firmware: Open.
-/
import Derived.Test.YtjdknddnanopaaaF7
namespace Go.Proofs.Ytjdknddnanopaaa
open Go.RowKit
set_option linter.unusedVariables false
set_option linter.unusedSimpArgs false

theorem openStep_lg {f : Fl} {s : St} {b j : Nat} (hbad : s.spec.any badP = false) (h : Lg s.spec s.saved) : (openStep f s b j).spec = s.spec ∧ Lg s.spec (openStep f s b j).saved := by
  by_cases hc : (decP (pagesF f (pageS s f b j) s.k)).2.2 ≠ 0 ∨ (decP (pagesF f (pageS s f b j) s.k)).2.1.length ≠ s.spec.length ∨ (decP (pagesF f (pageS s f b j) s.k)).1 ≤ s.seq
  · rw [openStep_no rfl hc]
    exact ⟨rfl, h⟩
  · rw [openStep_yes rfl hc]
    exact ⟨rfl, legal_idem hbad _⟩
theorem openRow_lg {f : Fl} {b : Nat} {s : St} (hbad : s.spec.any badP = false) (h : Lg s.spec s.saved) : ∀ n, (openRow f b s n).spec = s.spec ∧ Lg s.spec (openRow f b s n).saved
  | 0 => ⟨rfl, h⟩
  | n + 1 => by
    obtain ⟨h1, h2⟩ := openRow_lg hbad h n
    rw [openRow_succ]
    have := openStep_lg (f := f) (s := openRow f b s n) (b := b) (j := n) (by rw [h1]; exact hbad) (by rw [h1]; exact h2)
    rw [h1] at this
    exact this
theorem openAll_lg {f : Fl} {n : Nat} {s : St} (hbad : s.spec.any badP = false) (h : Lg s.spec s.saved) : ∀ m, (openAll f n s m).spec = s.spec ∧ Lg s.spec (openAll f n s m).saved
  | 0 => ⟨rfl, h⟩
  | m + 1 => by
    obtain ⟨h1, h2⟩ := openAll_lg hbad h m
    rw [openAll_succ]
    have := openRow_lg (f := f) (s := openAll f n s m) (b := m) (by rw [h1]; exact hbad) (by rw [h1]; exact h2) n
    rw [h1] at this
    exact this
theorem openF_lg {f : Fl} {fi bl : Nat} {sp : List Par} (hbad : sp.any badP = false) : (openF f fi bl sp).spec = sp ∧ Lg sp (openF f fi bl sp).saved :=
  openAll_lg (s := initS fi bl sp) hbad (lg_df hbad) bl

theorem fwOpen_ok {f : Fl} {first blocks : Int} (h : f.ok) (hE : regE f first blocks = 0) : BkOk f (fwOpenB f first blocks) := by
  obtain ⟨hd, a, k, rfl, rfl, k1, k8, hw, hp⟩ := regE_zero hE
  have hsz := sizeF_le h k8
  have hop := reg_open hE (sizeF f (2 * k + 2))
  have hok := fwSpec_ok (n := sizeF f (2 * k + 2)) (by omega)
  have hs := openF_sch hok hop
  obtain ⟨l1, l2⟩ := openF_lg (f := f) (fi := a) (bl := 2) (fwSpec_bad (sizeF f (2 * k + 2)))
  have e : fwOpenB f (a : Int) ((2 * k + 2 : Nat) : Int) = newB (openF f a 2 (fwSpec (sizeF f (2 * k + 2)))) a (2 * k + 2) := rfl
  rw [e]
  have hbk : (newB (openF f a 2 (fwSpec (sizeF f (2 * k + 2)))) a (2 * k + 2)).k = k := by
    show (2 * k + 2 - 2) / 2 = k
    omega
  refine ⟨openF_ok hok hop, l1, ?_, ?_, ?_, .inl ?_, ?_, ?_, ?_, hw, hp, Nat.le_refl _, by show 0 ≤ 1; omega, ⟨Int.le_refl _, by show (0 : Int) ≤ 1073741824; omega⟩, Nat.zero_le _, Nat.le_refl _, fun e he => ?_, fun d hd => ?_, by show 0 < 1024; omega⟩
  · exact hs.kp.f
  · exact hs.kp.b
  · show Lg (openF f a 2 (fwSpec (sizeF f (2 * k + 2)))).spec (openF f a 2 (fwSpec (sizeF f (2 * k + 2)))).saved
    rw [l1]
    exact l2
  · exact hs.re.1
  · rw [hbk]; rfl
  · rw [hbk]; exact k1
  · rw [hbk]; exact k8
  · cases he
  · cases hd

section
variable {w0 w w' : World} {L : Lc} {f : Fl}
def FOpenR (w0 w : World) (L : Lc) (f : Fl) (b : Bk) (e : Ending) (w' : World) : Prop :=
  ∃ S K, e = .returned (.tuple #[.pointer (some ⟨K.D, 0, none⟩), .nilIface]) ∧ BkAt w0 w' { L with E := fun g => L.E g ∨ g = K.D } S K f b ∧ Below w.heap.size w w' ∧ w.heap.size ≤ S.D ∧ w.heap.size ≤ S.G ∧ w.heap.size ≤ K.D ∧ K.v = .slice none 0 0

theorem fopen_no1 (h : FlAt w0 w L f) (first blocks : Int) (hf1 : I64 first) (hb1 : I64 blocks) (hE : regE f first blocks ≠ 0) :
    Calls Try.prog 15 #[.pointer (some ⟨L.d, 0, none⟩), .int .i64 first, .int .i64 blocks] w fun e w' => e = .returned (.tuple #[.pointer none, errV (fwOpenE f first blocks)]) ∧ w = w' := by
  have g2 := ne_err
  have HC := Lib.hid (fcheck_any h first blocks hf1 hb1)
  have HR : Hid (fwOpenE f first blocks = regE f first blocks) := by unfold fwOpenE; rw [Hid, if_pos hE]
  rw [errV_ne hE] at HC
  have HE := Lib.hid hE
  clear h hE
  go_enter Try.func15, Try.ntmps15
  go_wp2_with (fail)
  (with_reducible refine HC.out.mono ?_)
  rintro e w1 ⟨rfl, rfl⟩
  go_wp2
  go_ret2
  exact ⟨by rw [HR.out, errV_ne HE.out]; rfl, rfl⟩

theorem BkAt.opened {S : Sc} {s : St} (h : StAt w0 w L S f s) (a blocks : Nat) (W : World) (hW : w.alloc (.cells #[.pointer (some ⟨L.d, 0, none⟩), .int .i64 a, .int .i64 blocks, .pointer (some ⟨S.D, 0, none⟩), .bool false, .int .i64 2, .bool false, .int .i64 0, .int .i64 0, .int .i64 0, .int .i64 0, .slice none 0 0, .int .i64 0, .slice none 0 0, .bool false] 120) = W) :
    BkAt w0 W { L with E := fun g => L.E g ∨ g = w.heap.size } S ⟨w.heap.size, .slice none 0 0, none, 0, 0⟩ f (newB s a blocks) := by
  subst hW
  have hb : Below w.heap.size w (w.alloc (.cells #[.pointer (some ⟨L.d, 0, none⟩), .int .i64 a, .int .i64 blocks, .pointer (some ⟨S.D, 0, none⟩), .bool false, .int .i64 2, .bool false, .int .i64 0, .int .i64 0, .int .i64 0, .int .i64 0, .slice none 0 0, .int .i64 0, .slice none 0 0, .bool false] 120)) := (Below.refl _ _).alloc (Nat.le_refl _) _
  refine ⟨h.tag hb (fun g => L.E g ∨ g = w.heap.size) (fun g hg => ?_) (fun g hg h2 => ?_), h.fl.below.size, fun h5 => ?_, .inr rfl, ?_, fun j => frozen_row (heap_new w _ _), QS.nil _ _ _, (fun g hg => by cases hg), ⟨rfl, rfl, rfl⟩⟩
  · rw [World.size_alloc]
    rcases hg with hg | hg
    · have := h.fl.eb g hg; omega
    · omega
  · rcases h2 with h2 | h2
    · exact h2
    · omega
  · have := h.own_lt _ (.inl h5)
    exact Nat.lt_irrefl _ this
  · intro j u hu
    exact cell_new_at w _ _ j u _ rfl (by rw [← Array.getElem?_toList]; exact hu)

theorem open_go (h : FlAt w0 w L f) (first blocks : Int) (hE : regE f first blocks = 0) (hpE : RdX L.E w L.Ap (kcells .u8 f.picks)) :
    Calls Try.prog 15 #[.pointer (some ⟨L.d, 0, none⟩), .int .i64 first, .int .i64 blocks] w fun e w' => if fwOpenE f first blocks = 0 then FOpenR w0 w L f (fwOpenB f first blocks) e w' else e = .returned (.tuple #[.pointer none, errV (fwOpenE f first blocks)]) ∧ Below w.heap.size w w' := by
  have g1 := ne_nil
  have HOK := Lib.hid (fwOpen_ok h.ok hE)
  obtain ⟨-, a, k, hfa, hbl, k1, k8, hw, -⟩ := regE_zero hE
  have hwl : f.wear.length ≤ 64 := h.ok.b2
  have HC := Lib.hid (fcheck_any h first blocks (by unfold I64; omega) (by unfold I64; omega))
  rw [hE, errV_zero] at HC
  have HSZ := Lib.hid (fsize_any h k k8 blocks hbl)
  have hsz := sizeF_le h.ok k8
  have HX1 := Lib.hid (reg_open hE (sizeF f (2 * k + 2)))
  have hfw : fwOpenB f first blocks = newB (openF f a 2 (fwSpec (sizeF f (2 * k + 2)))) a (2 * k + 2) := by
    rw [hfa, hbl]; rfl
  have hfe : fwOpenE f first blocks = if (openF f a 2 (fwSpec (sizeF f (2 * k + 2)))).saved[4 + 3 * ((openF f a 2 (fwSpec (sizeF f (2 * k + 2)))).saved[0]?.getD 0).toNat]?.getD 0 = 0 then 12 else 0 := by
    unfold fwOpenE
    rw [if_neg (by rw [hE]; decide), hfa, hbl]
    rfl
  rw [hfw] at HOK ⊢
  rw [hfe]
  obtain ⟨N, hN⟩ : ∃ N, sizeF f (2 * k + 2) = N := ⟨_, rfl⟩
  rw [hN] at HSZ hsz HX1 HOK ⊢
  obtain ⟨s, hs⟩ : ∃ s, openF f a 2 (fwSpec N) = s := ⟨_, rfl⟩
  have HS := Lib.hid hs
  rw [hs] at HOK ⊢
  have hsl : s.spec.length = 9 := by rw [← hs, (openF_lg (fwSpec_bad N)).1]; rfl
  obtain ⟨va, vt, vk, v0, l0, c0, v1, l1, c1, hv, b1, b2, b3, -⟩ := HOK.out.vec
  have hsv : s.saved = _ := hv
  have X2 := Lib.hid (fwSpec_ok (n := N) (by omega))
  have HP := Lib.hid hpE
  have HF := Lib.hid h
  have hkk : 2 * k + 2 ≤ 18 := by omega
  have hfaa : a ≤ 64 := by omega
  obtain ⟨K, hK⟩ : ∃ K, 2 * k + 2 = K := ⟨_, rfl⟩
  rw [hK] at HOK hbl hkk ⊢
  subst hbl
  rw [hfa] at HX1 HC ⊢
  have hva : s.saved[0]?.getD 0 = (va : Int) := by rw [hsv]; rfl
  rw [hva, Int.toNat_natCast]
  have HS0 : Hid (savB (newB s a K) 0 = (va : Int)) := hva
  obtain ⟨z, hz⟩ : ∃ z, s.saved[4 + 3 * va]?.getD 0 = z := ⟨_, rfl⟩
  have HS1 : Hid (savB (newB s a K) (4 + 3 * va) = z) := hz
  rw [hz]
  have HSL : Hid ((newB s a K).st.spec.length = 9) := hsl
  have hva2 : va ≤ 1 := b1
  clear h hE hpE hfw hfe hs hv hsv hN hz hva hfa k1 k8 hK hw hwl hsl
  go_enter Try.func15, Try.ntmps15
  go_wp2_with (fail)
  (with_reducible refine HC.out.mono ?_)
  rintro e w1 ⟨rfl, rfl⟩
  go_wp2_with (fail)
  (with_reducible refine HSZ.out.mono ?_)
  rintro e w1 ⟨rfl, rfl⟩
  go_wp2_with (fail)
  (with_reducible refine (fspec_any N (by omega) _).mono ?_)
  rintro e w2 ⟨As, cs, rfl, hs1, hs2, hs3, hB⟩
  have HOP := Lib.hid (open_yesI (HF.out.later hB) (a : Int) 2 a 2 rfl rfl As 9 cs (fwSpec N) hs3 rfl hs1 hs2 X2.out HX1.out (HP.out.below hB))
  rw [HS.out] at HOP
  have HB2 := Lib.hid hB
  clear hs1 hs2 hs3 hB
  go_wp2_with (fail)
  (with_reducible refine HOP.out.mono ?_)
  rintro e w3 ⟨S, rfl, hS, hB, hD, hG⟩
  have HB3 : Hid (Below w.heap.size w w3) := HB2.out.trans (hB.mono HB2.out.size)
  have HST := Lib.hid hS
  have HDG : Hid (w.heap.size ≤ S.D ∧ w.heap.size ≤ S.G) := ⟨Nat.le_trans HB2.out.size hD, Nat.le_trans HB2.out.size hG⟩
  clear hS hB hD hG
  go_wp2_with (fail)
  obtain ⟨W, hW⟩ : ∃ W, w3.alloc (.cells #[.pointer (some ⟨L.d, 0, none⟩), .int .i64 a, .int .i64 K, .pointer (some ⟨S.D, 0, none⟩), .bool false, .int .i64 2, .bool false, .int .i64 0, .int .i64 0, .int .i64 0, .int .i64 0, .slice none 0 0, .int .i64 0, .slice none 0 0, .bool false] 120) = W := ⟨_, rfl⟩
  have HBK := Lib.hid (BkAt.opened HST.out a K W hW)
  have HB4 : Hid (Below w.heap.size w W) := by rw [← hW]; exact HB3.out.alloc HB3.out.size _
  rw [hW]
  clear hW
  (with_reducible refine (fsaved_any HBK.out HOK.out.ok 0 0 rfl (by rw [HSL.out]; omega)).mono ?_)
  rintro e w5 ⟨rfl, hB⟩
  rw [HS0.out]
  have HBK5 := Lib.hid (HBK.out.later hB)
  have HB5 : Hid (Below w.heap.size w w5) := HB4.out.trans (hB.mono HB4.out.size)
  clear hB
  go_wp2_with (fail)
  (with_reducible refine (fsaved_any HBK5.out HOK.out.ok (4 + 3 * (va : Int)) (4 + 3 * va) (by push_cast; rfl) (by rw [HSL.out]; omega)).mono ?_)
  rintro e w6 ⟨rfl, hB⟩
  rw [HS1.out]
  have HBK6 := Lib.hid (HBK5.out.later hB)
  have HB6 : Hid (Below w.heap.size w w6) := HB5.out.trans (hB.mono HB5.out.size)
  clear hB
  by_cases hz : z = 0
  · subst hz
    go_wp2
    go_ret2
    exact ⟨rfl, HB6.out⟩
  · have HZ := Lib.hid hz
    have hz1 : (z == 0) = false := by simpa using hz
    go_wp2
    go_ret2
    exact ⟨S, ⟨w3.heap.size, .slice none 0 0, none, 0, 0⟩, rfl, HBK6.out, HB6.out, HDG.out.1, HDG.out.2, HB3.out.size, rfl⟩
end
end Go.Proofs.Ytjdknddnanopaaa
