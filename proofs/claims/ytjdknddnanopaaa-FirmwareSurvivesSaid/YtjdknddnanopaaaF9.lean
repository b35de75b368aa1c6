/-
  Firmware: Boot, Abort, Running, Trial of a bank.
-/
import Derived.Test.YtjdknddnanopaaaF8
namespace Go.Proofs.Ytjdknddnanopaaa
open Go.RowKit
set_option linter.unusedVariables false
set_option linter.unusedSimpArgs false

theorem rdy_br {f : Fl} {b : Bk} (h : BkOk f b) : (rdyB b f).st.broken = false ∨ (rdyB b f).broken = true := by
  rcases h.br with e | e
  · exact .inl e
  · exact .inr (by show (b.broken || f.down) = true; rw [e]; rfl)
theorem rdy_ok {f : Fl} {b : Bk} (h : BkOk f b) : BkOk f (rdyB b f) :=
  ⟨h.ok, h.sp, h.fi, h.bl, h.lg, rdy_br h, h.bk, h.k1, h.k8, h.fw, h.pg, h.slot, h.dst, h.ver, h.len, h.fed, h.er, h.dt, h.page⟩
theorem rdy_up {f : Fl} {b : Bk} (h : (rdyB b f).broken = false) : b.broken = false ∧ f.down = false := by
  have : (b.broken || f.down) = false := h
  simpa using this
theorem BkOk.st_up {f : Fl} {b : Bk} (h : BkOk f b) (hb : b.broken = false) : b.st.broken = false := by
  rcases h.br with e | e
  · exact e
  · rw [hb] at e; cases e
theorem BkOk.sp9 {f : Fl} {b : Bk} (h : BkOk f b) : b.st.spec.length = 9 := by rw [h.sp]; rfl
theorem BkOk.ne {f : Fl} {b : Bk} (h : BkOk f b) : ∀ d, b.data = some d → d ≠ [] := fun d hd e => by
  have := (h.dt d hd).1
  rw [e] at this
  simp at this

section
variable {w0 w w1 w' : World} {L L' : Lc} {S S' : Sc} {K K' : Kc} {f f' : Fl} {b b' : Bk}
theorem BkTo.then (h : Aft w w1 L S K L' S' K') (k : BkTo w0 w1 L' S' K' f b w') : BkTo w0 w L S K f b w' := by
  obtain ⟨L2, S2, K2, h1, h2⟩ := k
  exact ⟨L2, S2, K2, h.trans h1, h2⟩
theorem BkTo.mk' (h : Aft w w' L S K L' S' K') (k : BkAt w0 w' L' S' K' f b) : BkTo w0 w L S K f b w' := ⟨L', S', K', h, k⟩
theorem Aft.bank (h : OnlyX (fun g => g = K.D) w w') : Aft w w' L S K L S K := Aft.of_bank h rfl (fun g _ h => h)

/-- A literal of integers, beside the bank. -/
theorem BkAt.lit (h : BkAt w0 w L S K f b) (cs : Array Value) (l : List Int) (hl : cs.toList = icells l) (W : World) (hW : w.alloc (.cells cs 3) = W) :
    BkAt w0 W L S K f b ∧ Aft w W L S K L S K ∧ RdX (Own5 L S) W (some ⟨w.heap.size, 0, none⟩) (icells l) := by
  have hb : Below w.heap.size w W := by rw [← hW]; exact (Below.refl _ _).alloc (Nat.le_refl _) _
  refine ⟨h.later hb, Aft.of_below hb, ?_⟩
  rw [← hW]
  refine rdx_at (Rd.new w _ _ _ hl) (by rw [World.size_alloc]; exact Nat.le_refl _) (fun hx => ?_)
  have := h.st.own_lt _ (.inl hx)
  omega

theorem fset_lit (h : BkAt w0 w L S K f b) (ho : StOk f b.st) (ii : Int) (i : Nat) (hii : ii = i) (hi : i ≤ 9) (cs : Array Value) (l : List Int) (hl : cs.toList = icells l) (n : Nat) (hn : l.length = n) (hn9 : n ≤ 9) (hok : setOk b.st i l) (hI : ∀ x ∈ l, I64 x) :
    Calls Try.prog 78 #[.pointer (some ⟨K.D, 0, none⟩), .int .i64 ii, .slice (some ⟨w.heap.size, 0, none⟩) n n] (w.alloc (.cells cs 3)) fun e w' => e = .returned .nilIface ∧ BkAt w0 w' L S K f { b with st := setN b.st i l } ∧ Aft w w' L S K L S K := by
  obtain ⟨h1, h2, h3⟩ := h.lit cs l hl _ rfl
  refine (fset_any h1 ho ii i hii hi hn hn9 h3 hok hI).mono ?_
  rintro e w' ⟨he, hk, hx⟩
  exact ⟨he, hk, h2.trans (Aft.of_store hx rfl rfl)⟩

def BootR (w0 w : World) (L : Lc) (S : Sc) (K : Kc) (q : Bk × Fl × Int × Int) (e : Ending) (w' : World) : Prop :=
  e = .returned (.tuple #[.int .i64 q.2.2.1, errV q.2.2.2]) ∧ BkTo w0 w L S K q.2.1 q.1 w'

set_option maxRecDepth 100000 in
set_option maxHeartbeats 2000000 in
theorem fboot_any (h : BkAt w0 w L S K f b) (ho : BkOk f b) : Calls Try.prog 26 #[.pointer (some ⟨K.D, 0, none⟩)] w (BootR w0 w L S K (bootB b f)) := by
  have g1 := ne_nil
  have g2 := ne_err
  have g3 := eq_nil
  have g4 := eq_err
  have HR := Lib.hid (fready_any h)
  have HO := Lib.hid (rdy_ok ho)
  have h9 := ho.sp9
  by_cases hbr : (rdyB b f).broken = true
  · have HB : Hid (bootB b f = (rdyB b f, f, 0, 20)) := by unfold bootB; rw [Hid, if_pos hbr]
    rw [if_pos hbr, errV_ne (by decide)] at HR
    clear h ho hbr h9
    go_enter Try.func26, Try.ntmps26
    go_wp2_with (fail)
    (with_reducible refine HR.out.mono ?_)
    rintro e w1 ⟨rfl, hK, hX⟩
    have HK := Lib.hid hK
    have HX := Lib.hid hX
    clear hK hX
    go_wp2
    go_ret2
    rw [HB.out]
    exact ⟨rfl, .mk' (.bank HX.out) HK.out⟩
  have hbf : (rdyB b f).broken = false := by simpa using hbr
  rw [if_neg hbr, errV_zero] at HR
  have HU := Lib.hid (rdy_up hbf)
  have HSB := Lib.hid (ho.st_up HU.out.1)
  by_cases hs : b.slot ≠ 2
  · have HB : Hid (bootB b f = (rdyB b f, f, 0, 12)) := by unfold bootB; rw [Hid, if_neg hbr, if_pos hs]
    have s1 : ¬ (b.slot : Int) = 2 := by omega
    have s2 : ((b.slot : Int) == 2) = false := by simpa using s1
    clear h ho hbr h9 hbf hs
    go_enter Try.func26, Try.ntmps26
    go_wp2_with (fail)
    (with_reducible refine HR.out.mono ?_)
    rintro e w1 ⟨rfl, hK, hX⟩
    have HK := Lib.hid hK
    have HX := Lib.hid hX
    have c5 : w1.cell? ⟨K.D, 5, none⟩ = some (.int .i64 b.slot) := hK.row 5 _ rfl
    clear hK hX
    go_wp2
    go_ret2
    rw [HB.out]
    exact ⟨rfl, .mk' (.bank HX.out) HK.out⟩
  have hs2 : b.slot = 2 := by omega
  obtain ⟨va, vt, vk, v0, l0, c0, v1, l1, c1, hv, b1, b2, b3, -⟩ := ho.vec
  have hv0 : savB b 0 = (va : Int) := by unfold savB; rw [hv]; rfl
  have hv1 : savB b 1 = (vt : Int) := by unfold savB; rw [hv]; rfl
  have hv2 : savB b 2 = (vk : Int) := by unfold savB; rw [hv]; rfl
  have HV0 : Hid (savB (rdyB b f) 0 = (va : Int)) := hv0
  have HV1 : Hid (savB (rdyB b f) 1 = (vt : Int)) := hv1
  have HV2 : Hid (savB (rdyB b f) 2 = (vk : Int)) := hv2
  have HS9 : Hid ((rdyB b f).st.spec.length = 9) := h9
  have HSP := Lib.hid ho.sp
  by_cases ht : vt = 2
  · have HB : Hid (bootB b f = ({ rdyB b f with slot := va }, f, (va : Int), 0)) := by
      unfold bootB
      rw [Hid, if_neg hbr, if_neg hs, hv1, if_pos (by omega), hv0, Int.toNat_natCast]
    subst ht
    clear h ho hbr h9 hbf hs hv hv0 hv1 hv2
    go_enter Try.func26, Try.ntmps26
    go_wp2_with (fail)
    (with_reducible refine HR.out.mono ?_)
    rintro e w1 ⟨rfl, hK, hX⟩
    have HK := Lib.hid hK
    have HX := Lib.hid hX
    have c5 : w1.cell? ⟨K.D, 5, none⟩ = some (.int .i64 b.slot) := hK.row 5 _ rfl
    rw [hs2] at c5
    clear hK hX
    go_wp2_with (fail)
    (with_reducible refine (fsaved_any HK.out HO.out.ok 0 0 rfl (by rw [HS9.out]; omega)).mono ?_)
    rintro e w2 ⟨rfl, hB⟩
    rw [HV0.out]
    have HK2 := Lib.hid (HK.out.later hB)
    have HA2 : Hid (Aft w w2 L S K L S K) := (Aft.bank HX.out).trans (Aft.of_below hB)
    clear hB
    go_wp2_with (fail)
    (with_reducible refine (fsaved_any HK2.out HO.out.ok 1 1 rfl (by rw [HS9.out]; omega)).mono ?_)
    rintro e w3 ⟨rfl, hB⟩
    rw [HV1.out]
    have HK3 := Lib.hid (HK2.out.later hB)
    have HA3 : Hid (Aft w w3 L S K L S K) := HA2.out.trans (Aft.of_below hB)
    have d5 : w3.cell? ⟨K.D, 5, none⟩ = some (.int .i64 b.slot) := HK3.out.row 5 _ rfl
    have z5 := HK3.out.fz 5
    have HC := Lib.hid (HK3.out.cell' 5 (.int .i64 va) { rdyB b f with slot := va } rfl rfl rfl rfl)
    clear hB
    go_wp2
    go_ret2
    rw [HB.out]
    exact ⟨rfl, .mk' (HA3.out.trans (.bank HC.out.2)) HC.out.1⟩
  -- a trial
  have hE : ∃ (i : Nat) (ii x run : Int) (rn : Nat), ii = i ∧ run = rn ∧ ((0 < vk ∧ i = 2 ∧ ii = 2 ∧ x = (vk : Int) - 1 ∧ run = vt ∧ rn = vt) ∨ (vk = 0 ∧ i = 1 ∧ ii = 1 ∧ x = 2 ∧ run = va ∧ rn = va)) ∧ setOk b.st i [x] ∧ I64 x ∧
      bootB b f = if (commitS (setN b.st i [x]) f).2.2 ≠ 0 then ({ rdyB b f with st := (commitS (setN b.st i [x]) f).1, broken := true }, (commitS (setN b.st i [x]) f).2.1, 0, 20) else ({ rdyB b f with st := (commitS (setN b.st i [x]) f).1, slot := rn }, (commitS (setN b.st i [x]) f).2.1, run, 0) := by
    by_cases hk : 0 < vk
    · refine ⟨2, 2, (vk : Int) - 1, vt, vt, rfl, rfl, .inl ⟨hk, rfl, rfl, rfl, rfl, rfl⟩, ⟨(set_fw HSB.out HSP.out (i := 2) (p := ⟨0, 3, 0⟩) rfl ⟨by simp only; omega, by simp only; omega⟩).1, trivial⟩, by unfold I64; omega, ?_⟩
      unfold bootB
      rw [if_neg hbr, if_neg hs, hv1, if_neg (by omega), hv2]
      simp only [if_pos (show (0 : Int) < (vk : Int) by omega), Int.toNat_natCast]
      rfl
    · have hk0 : vk = 0 := by omega
      refine ⟨1, 1, 2, va, va, rfl, rfl, .inr ⟨hk0, rfl, rfl, rfl, rfl, rfl⟩, ⟨(set_fw HSB.out HSP.out (i := 1) (p := ⟨0, 2, 2⟩) rfl ⟨by simp only; omega, by simp only; omega⟩).1, trivial⟩, by unfold I64; omega, ?_⟩
      unfold bootB
      rw [if_neg hbr, if_neg hs, hv1, if_neg (by omega), hv2]
      simp only [if_neg (show ¬ (0 : Int) < (vk : Int) by omega), hv0, Int.toNat_natCast]
      rfl
  obtain ⟨i, ii, x, run, rn, hii, hrn, hcs, hok, hx64, hBB⟩ := hE
  have HBB := Lib.hid hBB
  have HOK : Hid (setOk (rdyB b f).st i [x]) := hok
  have HX64 := Lib.hid hx64
  have HSO : Hid (StOk f (setN b.st i [x])) := setN_ok ho.ok (fun y hy => by rw [List.mem_singleton] at hy; subst hy; exact hx64)
  have ht1 : ¬ (vt : Int) = 2 := by omega
  have ht2 : ((vt : Int) == 2) = false := by simpa using ht1
  have HRN := Lib.hid hrn
  have hi9 : i ≤ 9 := by rcases hcs with h | h <;> omega
  have FS : Hid (∀ w4 : World, BkAt w0 w4 L S K f (rdyB b f) → Calls Try.prog 78 #[.pointer (some ⟨K.D, 0, none⟩), .int .i64 ii, .slice (some ⟨w4.heap.size, 0, none⟩) 1 1] (w4.alloc (.cells #[.int .i64 x] 3)) fun e w' => e = .returned .nilIface ∧ BkAt w0 w' L S K f { rdyB b f with st := setN b.st i [x] } ∧ Aft w4 w' L S K L S K) :=
    fun w4 hK => fset_lit hK ho.ok ii i hii hi9 #[.int .i64 x] [x] rfl 1 rfl (by omega) hok (fun y hy => by rw [List.mem_singleton] at hy; subst hy; exact hx64)
  obtain ⟨q, hq⟩ : ∃ q, commitS (setN b.st i [x]) f = q := ⟨_, rfl⟩
  have CM : Hid (∀ w5 : World, StAt w0 w5 L S f (setN b.st i [x]) → Calls Try.prog 68 #[.pointer (some ⟨S.D, 0, none⟩)] w5 (CommitR w0 w5 L S q)) := fun w5 hs => by
    have := commit_any hs HSO.out
    rw [hq] at this
    exact this
  rw [hq] at HBB
  obtain ⟨qs, qf, qe⟩ := q
  simp only at HBB
  clear h ho hbr h9 hbf hs hv hv0 hv1 hv2 hBB hok hx64 hq hii
  rcases hcs with ⟨hk, rfl, rfl, rfl, rfl, rfl⟩ | ⟨hk, rfl, rfl, rfl, rfl, rfl⟩
  all_goals
    try (have hk1 : (0 : Int) < (vk : Int) := by omega)
    go_enter Try.func26, Try.ntmps26
    go_wp2_with (fail)
    (with_reducible refine HR.out.mono ?_)
    rintro e w1 ⟨rfl, hK, hX⟩
    have HK := Lib.hid hK
    have HX := Lib.hid hX
    have c5 : w1.cell? ⟨K.D, 5, none⟩ = some (.int .i64 b.slot) := hK.row 5 _ rfl
    rw [hs2] at c5
    clear hK hX
    go_wp2_with (fail)
    (with_reducible refine (fsaved_any HK.out HO.out.ok 0 0 rfl (by rw [HS9.out]; omega)).mono ?_)
    rintro e w2 ⟨rfl, hB⟩
    rw [HV0.out]
    have HK2 := Lib.hid (HK.out.later hB)
    have HA2 : Hid (Aft w w2 L S K L S K) := (Aft.bank HX.out).trans (Aft.of_below hB)
    clear hB c5
    go_wp2_with (fail)
    (with_reducible refine (fsaved_any HK2.out HO.out.ok 1 1 rfl (by rw [HS9.out]; omega)).mono ?_)
    rintro e w3 ⟨rfl, hB⟩
    rw [HV1.out]
    have HK3 := Lib.hid (HK2.out.later hB)
    have HA3 : Hid (Aft w w3 L S K L S K) := HA2.out.trans (Aft.of_below hB)
    clear hB
    go_wp2_with (fail)
    (with_reducible refine (fsaved_any HK3.out HO.out.ok 2 2 rfl (by rw [HS9.out]; omega)).mono ?_)
    rintro e w4 ⟨rfl, hB⟩
    rw [HV2.out]
    have HK4 := Lib.hid (HK3.out.later hB)
    have HA4 : Hid (Aft w w4 L S K L S K) := HA3.out.trans (Aft.of_below hB)
    clear hB
    go_wp2_with (fail)
    (with_reducible refine (FS.out _ HK4.out).mono ?_)
    rintro e w5 ⟨rfl, hK, hA⟩
    have HK5 := Lib.hid hK
    have HA5 : Hid (Aft w w5 L S K L S K) := HA4.out.trans hA
    have c3 : w5.cell? ⟨K.D, 3, none⟩ = some (.pointer (some ⟨S.D, 0, none⟩)) := hK.row 3 _ rfl
    have HCM := Lib.hid (CM.out _ hK.st)
    unfold CommitR at HCM
    clear hK hA
    by_cases hq0 : qe = 0
    · rw [if_neg (by rw [hq0]; decide)] at HBB
      simp only at HCM
      rw [hq0, errV_zero] at HCM
      clear hq0
      go_wp2_with (fail)
      (with_reducible refine HCM.out.mono ?_)
      rintro e w6 ⟨rfl, ⟨S6, hd6, hg6, hs6⟩, ho6⟩
      have HK6 := Lib.hid (HK5.out.prog hs6 hd6 hg6 ho6)
      have HA6 : Hid (Aft w w6 L S K L S6 K) := HA5.out.trans (Aft.of_store ho6 hd6 hg6)
      have d5 : w6.cell? ⟨K.D, 5, none⟩ = some (.int .i64 b.slot) := HK6.out.row 5 _ rfl
      have z5 := HK6.out.fz 5
      have HC := Lib.hid (HK6.out.cell' 5 (.int .i64 rn) { rdyB b f with st := qs, slot := rn } rfl rfl rfl rfl)
      clear hd6 hg6 hs6 ho6 c3
      go_wp2
      go_ret2
      rw [HBB.out]
      exact ⟨rfl, .mk' (HA6.out.trans (.bank HC.out.2)) HC.out.1⟩
    · rw [if_pos hq0] at HBB
      simp only at HCM
      rw [errV_ne hq0] at HCM
      clear hq0
      go_wp2_with (fail)
      (with_reducible refine HCM.out.mono ?_)
      rintro e w6 ⟨rfl, ⟨S6, hd6, hg6, hs6⟩, ho6⟩
      have HK6 := Lib.hid (HK5.out.prog hs6 hd6 hg6 ho6)
      have HA6 : Hid (Aft w w6 L S K L S6 K) := HA5.out.trans (Aft.of_store ho6 hd6 hg6)
      clear hd6 hg6 hs6 ho6 c3
      go_wp2_with (fail)
      (with_reducible refine (ffail_any HK6.out).mono ?_)
      rintro e w7 ⟨rfl, hK, hX⟩
      have HK7 := Lib.hid hK
      have HA7 : Hid (Aft w w7 L S K L S6 K) := HA6.out.trans (.bank hX)
      clear hK hX
      go_wp2
      go_ret2
      rw [HBB.out]
      exact ⟨rfl, .mk' HA7.out HK7.out⟩
end
end Go.Proofs.Ytjdknddnanopaaa
