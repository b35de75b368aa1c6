/-
  Firmware: Finish of a bank.
-/
import Derived.Test.YtjdknddnanopaaaF16
namespace Go.Proofs.Ytjdknddnanopaaa
open Go.RowKit
set_option linter.unusedVariables false
set_option linter.unusedSimpArgs false

section
variable {w0 w w1 w' : World} {L L' : Lc} {S S' : Sc} {K K' : Kc} {f f' : Fl} {b b' : Bk} {s : St}
theorem finish_ok {f : Fl} {b : Bk} (ho : BkOk f b) (hb : b.st.broken = false) (hD : b.dst ≤ 1) {c : Int} (hc : 0 ≤ c ∧ c < 4294967296) :
    setOk b.st (3 + 3 * b.dst) [b.version, (b.length : Int), c] ∧ setOk (setN b.st (3 + 3 * b.dst) [b.version, (b.length : Int), c]) 1 [(b.dst : Int), 3] := by
  have hv := ho.ver
  have hl := ho.len
  have hsp := ho.sp
  obtain ⟨N, hN⟩ : ∃ N, sizeF f b.blocks = N := ⟨_, rfl⟩
  rw [hN] at hl hsp
  have key : ∀ (s : St) (i : Nat) (p : Par) (v : Int), s.broken = false → s.spec = fwSpec N → (fwSpec N)[i]? = some p → p.lo ≤ v ∧ v ≤ p.hi → setE s (i : Int) v = 0 ∧ (setF s (i : Int) v).broken = false ∧ (setF s (i : Int) v).spec = fwSpec N := fun s i p v h1 h2 h3 h4 => by
    obtain ⟨x1, x2⟩ := set_fw h1 h2 h3 h4
    exact ⟨x1, by rw [x2]; exact h1, by rw [x2]; exact h2⟩
  match hd : b.dst, hD with
  | 0, _ =>
    obtain ⟨a1, a2, a3⟩ := key b.st 3 ⟨0, 1073741824, 0⟩ b.version hb hsp rfl ⟨hv.1, hv.2⟩
    obtain ⟨b1, b2, b3⟩ := key _ 4 ⟨0, N, 0⟩ (b.length : Int) a2 a3 rfl ⟨by simp only; omega, by simp only; omega⟩
    obtain ⟨c1, c2, c3⟩ := key _ 5 ⟨0, 4294967295, 0⟩ c b2 b3 rfl ⟨hc.1, by simp only; omega⟩
    obtain ⟨d1, d2, d3⟩ := key _ 1 ⟨0, 2, 2⟩ ((0 : Nat) : Int) c2 c3 rfl ⟨by simp only; omega, by simp only; omega⟩
    obtain ⟨e1, e2, e3⟩ := key _ 2 ⟨0, 3, 0⟩ 3 d2 d3 rfl ⟨by simp only; omega, by simp only; omega⟩
    exact ⟨⟨a1, b1, c1, trivial⟩, d1, e1, trivial⟩
  | 1, _ =>
    obtain ⟨a1, a2, a3⟩ := key b.st 6 ⟨0, 1073741824, 0⟩ b.version hb hsp rfl ⟨hv.1, hv.2⟩
    obtain ⟨b1, b2, b3⟩ := key _ 7 ⟨0, N, 0⟩ (b.length : Int) a2 a3 rfl ⟨by simp only; omega, by simp only; omega⟩
    obtain ⟨c1, c2, c3⟩ := key _ 8 ⟨0, 4294967295, 0⟩ c b2 b3 rfl ⟨hc.1, by simp only; omega⟩
    obtain ⟨d1, d2, d3⟩ := key _ 1 ⟨0, 2, 2⟩ ((1 : Nat) : Int) c2 c3 rfl ⟨by simp only; omega, by simp only; omega⟩
    obtain ⟨e1, e2, e3⟩ := key _ 2 ⟨0, 3, 0⟩ 3 d2 d3 rfl ⟨by simp only; omega, by simp only; omega⟩
    exact ⟨⟨a1, b1, c1, trivial⟩, d1, e1, trivial⟩
set_option maxRecDepth 100000 in
set_option maxHeartbeats 8000000 in
theorem ffinish_any (h : BkAt w0 w L S K f b) (ho : BkOk f b) (hrec : b.broken = false → b.record = false → b.st.busy = false) (hsq : b.st.seq ≤ 1000000) (hlen1 : b.upload = true → 1 ≤ b.length) (c : Int) (hc : 0 ≤ c ∧ c < 4294967296) : Calls Try.prog 37 #[.pointer (some ⟨K.D, 0, none⟩), .int .u32 c] w (CallR w0 w L S K f (finishB b f c)) := by
  have g1 := ne_nil
  have g2 := ne_err
  have HR := Lib.hid (fready_any h)
  have HO := Lib.hid (rdy_ok ho)
  have HNE : Hid (∀ d, (rdyB b f).data = some d → d ≠ []) := ho.ne
  by_cases hbr : (rdyB b f).broken = true
  · have HB : Hid (finishB b f c = (rdyB b f, 20)) := by unfold finishB; rw [Hid, if_pos hbr]
    rw [if_pos hbr, errV_ne (by decide)] at HR
    clear h ho hbr hrec hsq hlen1
    go_enter Try.func37, Try.ntmps37
    go_wp2_with (fail)
    (with_reducible refine HR.out.mono ?_)
    rintro e w1 ⟨rfl, hK, hX⟩
    have HK := Lib.hid hK
    have HX := Lib.hid hX
    have c6 : w1.cell? ⟨K.D, 6, none⟩ = some (.bool b.upload) := hK.row 6 _ rfl
    have c10 : w1.cell? ⟨K.D, 10, none⟩ = some (.int .i64 b.fed) := hK.row 10 _ rfl
    have c9 : w1.cell? ⟨K.D, 9, none⟩ = some (.int .i64 b.length) := hK.row 9 _ rfl
    clear hK hX
    go_wp2
    go_ret
    rw [HB.out]
    exact ⟨rfl, .mk' (.bank HX.out) HK.out⟩
  have hbf : (rdyB b f).broken = false := by simpa using hbr
  have HU := Lib.hid (rdy_up hbf)
  have HSB := Lib.hid (ho.st_up HU.out.1)
  rw [if_neg hbr, errV_zero] at HR
  by_cases hup : b.upload = false
  · have HB : Hid (finishB b f c = (rdyB b f, 12)) := by unfold finishB; rw [Hid, if_neg hbr, if_pos (.inl hup)]
    clear h ho hbr hrec hsq hlen1 hbf
    go_enter Try.func37, Try.ntmps37
    go_wp2_with (fail)
    (with_reducible refine HR.out.mono ?_)
    rintro e w1 ⟨rfl, hK, hX⟩
    have HK := Lib.hid hK
    have HX := Lib.hid hX
    have c6 : w1.cell? ⟨K.D, 6, none⟩ = some (.bool b.upload) := hK.row 6 _ rfl
    have c10 : w1.cell? ⟨K.D, 10, none⟩ = some (.int .i64 b.fed) := hK.row 10 _ rfl
    have c9 : w1.cell? ⟨K.D, 9, none⟩ = some (.int .i64 b.length) := hK.row 9 _ rfl
    clear hK hX
    rw [hup] at c6
    go_wp2_with (fail)
    go_quiet (fail)
    go_wp2
    go_ret
    rw [HB.out]
    exact ⟨rfl, .mk' ((Aft.bank HX.out).trans (Aft.of_below (Below.drewN (Below.refl _ _) _))) (HK.out.later (Below.drewN (Below.refl _ _) _))⟩
  have hupf := hup
  have hup : b.upload = true := by simpa using hup
  by_cases hfl : b.fed = b.length
  case neg =>
    have HB : Hid (finishB b f c = (rdyB b f, 12)) := by unfold finishB; rw [Hid, if_neg hbr, if_pos (.inr hfl)]
    have hf1 : ¬ (b.fed : Int) = (b.length : Int) := by omega
    have hf2 : ((b.fed : Int) == (b.length : Int)) = false := by simpa using hf1
    clear h ho hbr hrec hsq hlen1 hbf hupf hfl
    go_enter Try.func37, Try.ntmps37
    go_wp2_with (fail)
    (with_reducible refine HR.out.mono ?_)
    rintro e w1 ⟨rfl, hK, hX⟩
    have HK := Lib.hid hK
    have HX := Lib.hid hX
    have c6 : w1.cell? ⟨K.D, 6, none⟩ = some (.bool b.upload) := hK.row 6 _ rfl
    have c10 : w1.cell? ⟨K.D, 10, none⟩ = some (.int .i64 b.fed) := hK.row 10 _ rfl
    have c9 : w1.cell? ⟨K.D, 9, none⟩ = some (.int .i64 b.length) := hK.row 9 _ rfl
    clear hK hX
    rw [hup] at c6
    go_wp2_with (fail)
    go_quiet (fail)
    go_wp2
    go_ret
    rw [HB.out]
    exact ⟨rfl, .mk' ((Aft.bank HX.out).trans (Aft.of_below (Below.drewN (Below.refl _ _) _))) (HK.out.later (Below.drewN (Below.refl _ _) _))⟩
  have hst : ¬ (b.upload = false ∨ b.fed ≠ b.length) := fun e => by rcases e with e | e <;> contradiction
  by_cases hw : workB b = true
  · have HWK : Hid (workB (rdyB b f) = true) := hw
    have HB : Hid (finishB b f c = (rdyB b f, 14)) := by unfold finishB; rw [Hid, if_neg hbr, if_neg hst, if_pos hw]
    clear h ho hbr hrec hsq hlen1 hbf hupf hst hw
    go_enter Try.func37, Try.ntmps37
    go_wp2_with (fail)
    (with_reducible refine HR.out.mono ?_)
    rintro e w1 ⟨rfl, hK, hX⟩
    have HK := Lib.hid hK
    have HX := Lib.hid hX
    have c6 : w1.cell? ⟨K.D, 6, none⟩ = some (.bool b.upload) := hK.row 6 _ rfl
    have c10 : w1.cell? ⟨K.D, 10, none⟩ = some (.int .i64 b.fed) := hK.row 10 _ rfl
    have c9 : w1.cell? ⟨K.D, 9, none⟩ = some (.int .i64 b.length) := hK.row 9 _ rfl
    rw [hfl] at c10
    clear hK hX hfl
    rw [hup] at c6
    go_wp2_with (fail)
    go_quiet (fail)
    obtain ⟨W2, hW2⟩ : ∃ W, w1.drewN nq = W := ⟨_, rfl⟩
    have HK2 : Hid (BkAt w0 W2 L S K f (rdyB b f)) := by rw [← hW2]; exact HK.out.later (Below.drewN (Below.refl _ _) _)
    have HA2 : Hid (Aft w W2 L S K L S K) := by rw [← hW2]; exact (Aft.bank HX.out).trans (Aft.of_below (Below.drewN (Below.refl _ _) _))
    rw [hW2]
    clear hW2 c6 c9 c10
    go_wp2_with (fail)
    (with_reducible refine (fwork_any HK2.out HNE.out).mono ?_)
    rintro e w3 ⟨rfl, rfl⟩
    rw [HWK.out]
    go_wp2
    go_ret
    rw [HB.out]
    exact ⟨rfl, .mk' HA2.out HK2.out⟩
  have hwf : workB b = false := by simpa using hw
  have HWK : Hid (workB (rdyB b f) = false) := hwf
  have hrc : b.record = false := by unfold workB at hwf; simp only [Bool.or_eq_false_iff] at hwf; exact hwf.2
  have hbu := hrec HU.out.1 hrc
  have hl1 := hlen1 hup
  have hD1 := ho.dst
  have hl8 : b.length ≤ 8192 := Nat.le_trans ho.len (by rw [ho.bk]; exact sizeF_le h.st.fl.ok ho.k8)
  obtain ⟨D, hD⟩ : ∃ D, b.dst = D := ⟨_, rfl⟩
  obtain ⟨l, hl⟩ : ∃ l, b.length = l := ⟨_, rfl⟩
  obtain ⟨img, himg⟩ : ∃ img, imgB f b D l = img := ⟨_, rfl⟩
  obtain ⟨C, hC⟩ : ∃ C, sumZ img = C := ⟨_, rfl⟩
  have HFN : Hid (finishB b f c = if C ≠ c then ({ rdyB b f with upload := false }, 19) else (recB { rdyB b f with upload := false } (finishS b c) f, 0)) := by
    unfold finishB; rw [Hid, if_neg hbr, if_neg hst, if_neg hw, hD, hl, himg, hC]
  have HRD : Hid (∀ w3 : World, BkAt w0 w3 L S K f { rdyB b f with upload := false } → Calls Try.prog 80 #[.pointer (some ⟨K.D, 0, none⟩), .int .i64 D, .int .i64 l] w3 fun e w' => ∃ A c, e = .returned (.tuple #[.slice A l c, .nilIface]) ∧ l ≤ c ∧ c ≤ maxLen ∧ Rd w' w'.heap.size A (kcells .u8 img) ∧ Below w3.heap.size w3 w') := fun w3 hK => by
    have ho2 : BkOk f { rdyB b f with upload := false } := ⟨HO.out.ok, HO.out.sp, HO.out.fi, HO.out.bl, HO.out.lg, HO.out.br, HO.out.bk, HO.out.k1, HO.out.k8, HO.out.fw, HO.out.pg, HO.out.slot, HO.out.dst, HO.out.ver, HO.out.len, HO.out.fed, HO.out.er, HO.out.dt, HO.out.page⟩
    have := fread_any hK ho2 HU.out.2 D l (by omega) (by omega) (by rw [← hl]; exact ho.len) (fun g => g < w3.heap.size) (fun g hg => hg)
    rw [show imgB f { rdyB b f with upload := false } D l = img from himg] at this
    refine this.mono ?_
    rintro e w' ⟨A, c, he, h1, h2, h3, h4, h5⟩
    exact ⟨A, c, he, h1, h2, h3.rd, h5⟩
  have HBY : Hid (Bytes img) := by rw [← himg]; unfold imgB; exact bytes_take (bytes_drop h.st.fl.ok.byt _) _
  have HIL : Hid (img.length = l) := by
    obtain ⟨r1, r2⟩ := slot_room ho h.st.fl.ok.b2 h.st.fl.ok.p2 (s := D) (by omega)
    have hlen : f.img.length = f.wear.length * f.pg * 64 := h.st.fl.ok.len
    have hll := ho.len
    rw [r2, hl] at hll
    rw [← himg]; unfold imgB
    rw [Hid, List.length_take, List.length_drop, hlen]
    generalize blkB b D * f.pg = x1 at *
    generalize b.k * f.pg = x2 at *
    omega
  have HCC := Lib.hid hC
  have HDD := Lib.hid hD
  have HLL := Lib.hid hl
  rw [hl] at hl1 hl8
  rw [hD] at hD1
  by_cases hcc : C = c
  case neg =>
    have HB : Hid (finishB b f c = ({ rdyB b f with upload := false }, 19)) := by rw [Hid, HFN.out, if_pos hcc]
    have hcc2 : (C == c) = false := by simpa using hcc
    clear h ho hbr hrec hsq hlen1 hbf hupf hst hw hwf hrc hbu hD hl himg hC
    go_enter Try.func37, Try.ntmps37
    go_wp2_with (fail)
    (with_reducible refine HR.out.mono ?_)
    rintro e w1 ⟨rfl, hK, hX⟩
    have HK := Lib.hid hK
    have HX := Lib.hid hX
    have c6 : w1.cell? ⟨K.D, 6, none⟩ = some (.bool b.upload) := hK.row 6 _ rfl
    have c10 : w1.cell? ⟨K.D, 10, none⟩ = some (.int .i64 b.fed) := hK.row 10 _ rfl
    have c9 : w1.cell? ⟨K.D, 9, none⟩ = some (.int .i64 b.length) := hK.row 9 _ rfl
    rw [hfl] at c10
    clear hK hX hfl
    rw [hup] at c6
    go_wp2_with (fail)
    go_quiet (fail)
    obtain ⟨W2, hW2⟩ : ∃ W, w1.drewN nq = W := ⟨_, rfl⟩
    have HK2 : Hid (BkAt w0 W2 L S K f (rdyB b f)) := by rw [← hW2]; exact HK.out.later (Below.drewN (Below.refl _ _) _)
    have HA2 : Hid (Aft w W2 L S K L S K) := by rw [← hW2]; exact (Aft.bank HX.out).trans (Aft.of_below (Below.drewN (Below.refl _ _) _))
    rw [hW2]
    clear hW2 c6 c9 c10
    go_wp2_with (fail)
    (with_reducible refine (fwork_any HK2.out HNE.out).mono ?_)
    rintro e w3 ⟨rfl, rfl⟩
    rw [HWK.out]
    have d6 : W2.cell? ⟨K.D, 6, none⟩ = some (.bool b.upload) := HK2.out.row 6 _ rfl
    have z6 := HK2.out.fz 6
    have HC1 := Lib.hid (HK2.out.cell' 6 (.bool false) { rdyB b f with upload := false } rfl rfl rfl rfl)
    obtain ⟨W3, hW3⟩ : ∃ W, W2.setCell ⟨K.D, 6, none⟩ (.bool false) = W := ⟨_, rfl⟩
    have HK3 : Hid (BkAt w0 W3 L S K f { rdyB b f with upload := false }) := by rw [← hW3]; exact HC1.out.1
    have HA3 : Hid (Aft w W3 L S K L S K) := by rw [← hW3]; exact HA2.out.trans (.bank HC1.out.2)
    go_wp2_with (fail)
    try rw [hW3]
    clear hW3 d6 z6 HC1
    have HKS : Hid (∀ W, Below W3.heap.size W3 W → W.cell? ⟨K.D, 7, none⟩ = some (.int .i64 D) ∧ W.cell? ⟨K.D, 9, none⟩ = some (.int .i64 l)) := fun W hB => by
      have h1 := (HK3.out.later hB).row 7 _ rfl
      have h2 := (HK3.out.later hB).row 9 _ rfl
      rw [show ({ rdyB b f with upload := false } : Bk).dst = D from HDD.out] at h1
      rw [show ({ rdyB b f with upload := false } : Bk).length = l from HLL.out] at h2
      exact ⟨h1, h2⟩
    obtain ⟨d7, d9⟩ := HKS.out _ (Below.refl _ _)
    have HRD2 : Hid (∀ q, Calls Try.prog 80 #[.pointer (some ⟨K.D, 0, none⟩), .int .i64 D, .int .i64 l] (W3.drewN q) fun e w' => ∃ A c, e = .returned (.tuple #[.slice A l c, .nilIface]) ∧ l ≤ c ∧ c ≤ maxLen ∧ Rd w' w'.heap.size A (kcells .u8 img) ∧ Below W3.heap.size W3 w') := fun q => by
      have hb := Below.drewN (Below.refl W3.heap.size W3) q
      refine (HRD.out _ (HK3.out.later hb)).mono ?_
      rintro e w' ⟨A, c, he, h1, h2, h3, h4⟩
      exact ⟨A, c, he, h1, h2, h3, hb.trans (h4.mono hb.size)⟩
    go_region_held3 (fun w9 => w9.cell? ⟨K.D, 7, none⟩ = some (.int .i64 D) ∧ w9.cell? ⟨K.D, 9, none⟩ = some (.int .i64 l)) (first | exact HKS.out _ (Below.drewN (Below.refl _ _) _) | exact HKS.out _ hB9 | go_keep) (first
      | (go_at_call 80; refine (HRD2.out _).mono ?_; rintro e wb ⟨A4, c4, rfl, hc1, hc2, hr9, hB9⟩))
    all_goals
      have HK4 := Lib.hid (HK3.out.later hB9)
      have HA4 : Hid (Aft w wb L S K L S K) := HA3.out.trans (Aft.of_below hB9)
      have HR4 := Lib.hid hr9
      clear hB9 hr9 hc1 hc2 d7 d9
      go_wp2_with (fail)
      (with_reducible refine (fsum_any A4 l c4 img wb HR4.out HIL.out HBY.out (by omega)).mono ?_)
      rintro e w5 ⟨rfl, q, rfl⟩
      rw [HCC.out]
      have HBQ : Hid (Below wb.heap.size wb (wb.drewN q)) := Below.drewN (Below.refl wb.heap.size wb) q
      have HK5 := Lib.hid (HK4.out.later HBQ.out)
      have HA5 : Hid (Aft w (wb.drewN q) L S K L S K) := HA4.out.trans (Aft.of_below HBQ.out)
      obtain ⟨W5, hW5⟩ : ∃ W, wb.drewN q = W := ⟨_, rfl⟩
      rw [hW5] at HK5 HA5 ⊢
      clear hW5 HBQ
      go_wp2
      go_ret
      rw [HB.out]
      exact ⟨rfl, .mk' HA5.out HK5.out⟩
  subst hcc
  have HB : Hid (finishB b f C = (recB { rdyB b f with upload := false } (finishS b C) f, 0)) := by rw [Hid, HFN.out, if_neg (by simp)]
  obtain ⟨ok1, ok2⟩ := finish_ok ho HSB.out ho.dst hc
  rw [hD, hl] at ok1 ok2
  have hI1 : ∀ x ∈ [b.version, (l : Int), C], I64 x := fun x hx => by
    have := ho.ver
    simp only [List.mem_cons, List.not_mem_nil, or_false] at hx
    rcases hx with rfl | rfl | rfl <;> (unfold I64; omega)
  have hI2 : ∀ x ∈ [(D : Int), 3], I64 x := fun x hx => by
    simp only [List.mem_cons, List.not_mem_nil, or_false] at hx
    rcases hx with rfl | rfl <;> (unfold I64; omega)
  have hfs : finishS b C = setN (setN b.st (3 + 3 * D) [b.version, (l : Int), C]) 1 [(D : Int), 3] := by unfold finishS; rw [hD, hl]
  have HSO1 : Hid (StOk f (setN b.st (3 + 3 * D) [b.version, (l : Int), C])) := setN_ok ho.ok hI1
  have HSO : Hid (StOk f (finishS b C)) := by rw [Hid, hfs]; exact setN_ok HSO1.out hI2
  have FS1 : Hid (∀ w4 : World, BkAt w0 w4 L S K f { rdyB b f with upload := false } → Calls Try.prog 78 #[.pointer (some ⟨K.D, 0, none⟩), .int .i64 (3 + 3 * (D : Int)), .slice (some ⟨w4.heap.size, 0, none⟩) 3 3] (w4.alloc (.cells #[.int .i64 b.version, .int .i64 l, .int .i64 C] 3)) fun e w' => e = .returned .nilIface ∧ BkAt w0 w' L S K f { rdyB b f with upload := false, st := setN b.st (3 + 3 * D) [b.version, (l : Int), C] } ∧ Aft w4 w' L S K L S K) := fun w4 hK =>
    fset_lit hK ho.ok (3 + 3 * (D : Int)) (3 + 3 * D) (by push_cast; rfl) (by omega) #[.int .i64 b.version, .int .i64 l, .int .i64 C] [b.version, (l : Int), C] rfl 3 rfl (by omega) ok1 hI1
  have FS2 : Hid (∀ w4 : World, BkAt w0 w4 L S K f { rdyB b f with upload := false, st := setN b.st (3 + 3 * D) [b.version, (l : Int), C] } → Calls Try.prog 78 #[.pointer (some ⟨K.D, 0, none⟩), .int .i64 1, .slice (some ⟨w4.heap.size, 0, none⟩) 2 2] (w4.alloc (.cells #[.int .i64 D, .int .i64 3] 3)) fun e w' => e = .returned .nilIface ∧ BkAt w0 w' L S K f { rdyB b f with upload := false, st := finishS b C } ∧ Aft w4 w' L S K L S K) := fun w4 hK => by
    rw [hfs]
    exact fset_lit hK HSO1.out 1 1 rfl (by omega) #[.int .i64 D, .int .i64 3] [(D : Int), 3] rfl 2 rfl (by omega) ok2 hI2
  have FRC : Hid (∀ w5 : World, BkAt w0 w5 L S K f { rdyB b f with upload := false, st := finishS b C } → Calls Try.prog 82 #[.pointer (some ⟨K.D, 0, none⟩)] w5 fun e w' => e = .returned .nilIface ∧ BkTo w0 w5 L S K f (recB { rdyB b f with upload := false } (finishS b C) f) w') := fun w5 hK => by
    obtain ⟨k1, k2, k3, k4, k5, k6, -, -⟩ := setN_keeps [(D : Int), 3] (setN b.st (3 + 3 * D) [b.version, (l : Int), C]) 1
    obtain ⟨j1, j2, j3, j4, j5, j6, -, -⟩ := setN_keeps [b.version, (l : Int), C] b.st (3 + 3 * D)
    rw [← hfs] at k1 k2 k3 k6
    exact frec_any hK HSO.out (beginE_two (k1.trans (j1.trans HSB.out)) HU.out.2 (k2.trans (j2.trans hbu)) (by show 0 ≤ (finishS b C).seq; rw [k3, j3]; exact ho.ok.q1) (by show (finishS b C).seq ≤ 1000000; rw [k3, j3]; exact hsq) (k6.trans (j6.trans (by rw [ho.ok.tl]; exact ho.sp9))))
  have OK1 := Lib.hid ok1
  have HI1 := Lib.hid hI1
  have q3 : IntKind.i64.wrap C = C := IntWalk.i64_in _ (by omega)
  have q4 : IntKind.i64.wrap (3 * (D : Int)) = 3 * (D : Int) := IntWalk.i64_in _ (by omega)
  have q5 : IntKind.i64.wrap (3 + 3 * (D : Int)) = 3 + 3 * (D : Int) := IntWalk.i64_in _ (by omega)
  obtain ⟨hc0, hc1'⟩ := hc
  clear h ho hbr hrec hsq hlen1 hbf hupf hst hw hwf hrc hbu hD hl himg hC ok1 ok2 hI1 hI2 hfs
  go_enter Try.func37, Try.ntmps37
  go_wp2_with (fail)
  (with_reducible refine HR.out.mono ?_)
  rintro e w1 ⟨rfl, hK, hX⟩
  have HK := Lib.hid hK
  have HX := Lib.hid hX
  have c6 : w1.cell? ⟨K.D, 6, none⟩ = some (.bool b.upload) := hK.row 6 _ rfl
  have c10 : w1.cell? ⟨K.D, 10, none⟩ = some (.int .i64 b.fed) := hK.row 10 _ rfl
  have c9 : w1.cell? ⟨K.D, 9, none⟩ = some (.int .i64 b.length) := hK.row 9 _ rfl
  rw [hfl] at c10
  clear hK hX hfl
  rw [hup] at c6
  go_wp2_with (fail)
  go_quiet (fail)
  obtain ⟨W2, hW2⟩ : ∃ W, w1.drewN nq = W := ⟨_, rfl⟩
  have HK2 : Hid (BkAt w0 W2 L S K f (rdyB b f)) := by rw [← hW2]; exact HK.out.later (Below.drewN (Below.refl _ _) _)
  have HA2 : Hid (Aft w W2 L S K L S K) := by rw [← hW2]; exact (Aft.bank HX.out).trans (Aft.of_below (Below.drewN (Below.refl _ _) _))
  rw [hW2]
  clear hW2 c6 c9 c10
  go_wp2_with (fail)
  (with_reducible refine (fwork_any HK2.out HNE.out).mono ?_)
  rintro e w3 ⟨rfl, rfl⟩
  rw [HWK.out]
  have d6 : W2.cell? ⟨K.D, 6, none⟩ = some (.bool b.upload) := HK2.out.row 6 _ rfl
  have z6 := HK2.out.fz 6
  have HC1 := Lib.hid (HK2.out.cell' 6 (.bool false) { rdyB b f with upload := false } rfl rfl rfl rfl)
  obtain ⟨W3, hW3⟩ : ∃ W, W2.setCell ⟨K.D, 6, none⟩ (.bool false) = W := ⟨_, rfl⟩
  have HK3 : Hid (BkAt w0 W3 L S K f { rdyB b f with upload := false }) := by rw [← hW3]; exact HC1.out.1
  have HA3 : Hid (Aft w W3 L S K L S K) := by rw [← hW3]; exact HA2.out.trans (.bank HC1.out.2)
  go_wp2_with (fail)
  try rw [hW3]
  clear hW3 d6 z6 HC1
  have HKS : Hid (∀ W, Below W3.heap.size W3 W → W.cell? ⟨K.D, 7, none⟩ = some (.int .i64 D) ∧ W.cell? ⟨K.D, 9, none⟩ = some (.int .i64 l)) := fun W hB => by
    have h1 := (HK3.out.later hB).row 7 _ rfl
    have h2 := (HK3.out.later hB).row 9 _ rfl
    rw [show ({ rdyB b f with upload := false } : Bk).dst = D from HDD.out] at h1
    rw [show ({ rdyB b f with upload := false } : Bk).length = l from HLL.out] at h2
    exact ⟨h1, h2⟩
  obtain ⟨d7, d9⟩ := HKS.out _ (Below.refl _ _)
  have HRD2 : Hid (∀ q, Calls Try.prog 80 #[.pointer (some ⟨K.D, 0, none⟩), .int .i64 D, .int .i64 l] (W3.drewN q) fun e w' => ∃ A c, e = .returned (.tuple #[.slice A l c, .nilIface]) ∧ l ≤ c ∧ c ≤ maxLen ∧ Rd w' w'.heap.size A (kcells .u8 img) ∧ Below W3.heap.size W3 w') := fun q => by
    have hb := Below.drewN (Below.refl W3.heap.size W3) q
    refine (HRD.out _ (HK3.out.later hb)).mono ?_
    rintro e w' ⟨A, c, he, h1, h2, h3, h4⟩
    exact ⟨A, c, he, h1, h2, h3, hb.trans (h4.mono hb.size)⟩
  go_region_held3 (fun w9 => w9.cell? ⟨K.D, 7, none⟩ = some (.int .i64 D) ∧ w9.cell? ⟨K.D, 9, none⟩ = some (.int .i64 l)) (first | exact HKS.out _ (Below.drewN (Below.refl _ _) _) | exact HKS.out _ hB9 | go_keep) (first
    | (go_at_call 80; refine (HRD2.out _).mono ?_; rintro e wb ⟨A4, c4, rfl, hc1, hc2, hr9, hB9⟩))
  all_goals
    have HK4 := Lib.hid (HK3.out.later hB9)
    have HA4 : Hid (Aft w wb L S K L S K) := HA3.out.trans (Aft.of_below hB9)
    have HR4 := Lib.hid hr9
    clear hB9 hr9 hc1 hc2 d7 d9
    go_wp2_with (fail)
    (with_reducible refine (fsum_any A4 l c4 img wb HR4.out HIL.out HBY.out (by omega)).mono ?_)
    rintro e w5 ⟨rfl, q, rfl⟩
    rw [HCC.out]
    have HBQ : Hid (Below wb.heap.size wb (wb.drewN q)) := Below.drewN (Below.refl wb.heap.size wb) q
    have HK5 := Lib.hid (HK4.out.later HBQ.out)
    have HA5 : Hid (Aft w (wb.drewN q) L S K L S K) := HA4.out.trans (Aft.of_below HBQ.out)
    obtain ⟨W5, hW5⟩ : ∃ W, wb.drewN q = W := ⟨_, rfl⟩
    rw [hW5] at HK5 HA5 ⊢
    clear hW5 HBQ
    have HKS5 : Hid (∀ W, Below W5.heap.size W5 W → W.cell? ⟨K.D, 7, none⟩ = some (.int .i64 D) ∧ W.cell? ⟨K.D, 8, none⟩ = some (.int .i64 b.version) ∧ W.cell? ⟨K.D, 9, none⟩ = some (.int .i64 l)) := fun W hB => by
      have h1 := (HK5.out.later hB).row 7 _ rfl
      have h2 := (HK5.out.later hB).row 9 _ rfl
      have h3 := (HK5.out.later hB).row 8 _ rfl
      rw [show ({ rdyB b f with upload := false } : Bk).dst = D from HDD.out] at h1
      rw [show ({ rdyB b f with upload := false } : Bk).length = l from HLL.out] at h2
      exact ⟨h1, h3, h2⟩
    have HKA : Hid (∀ (W : World) (s : St), BkAt w0 W L S K f { rdyB b f with upload := false, st := s } → W.cell? ⟨K.D, 7, none⟩ = some (.int .i64 D) ∧ W.cell? ⟨K.D, 8, none⟩ = some (.int .i64 b.version) ∧ W.cell? ⟨K.D, 9, none⟩ = some (.int .i64 l)) := fun W s hK => by
      have h1 := hK.row 7 _ rfl
      have h2 := hK.row 9 _ rfl
      have h3 := hK.row 8 _ rfl
      rw [show ({ rdyB b f with upload := false, st := s } : Bk).dst = D from HDD.out] at h1
      rw [show ({ rdyB b f with upload := false, st := s } : Bk).length = l from HLL.out] at h2
      exact ⟨h1, h3, h2⟩
    obtain ⟨hl1, hl2, hl3⟩ := HK5.out.lit #[.int .i64 b.version, .int .i64 l, .int .i64 C] [b.version, (l : Int), C] rfl (W5.alloc (.cells #[.int .i64 b.version, .int .i64 l, .int .i64 C] 3)) rfl
    have FS1w : Hid (∀ W', Below (W5.alloc (.cells #[.int .i64 b.version, .int .i64 l, .int .i64 C] 3)).heap.size (W5.alloc (.cells #[.int .i64 b.version, .int .i64 l, .int .i64 C] 3)) W' → Calls Try.prog 78 #[.pointer (some ⟨K.D, 0, none⟩), .int .i64 (3 + 3 * (D : Int)), .slice (some ⟨W5.heap.size, 0, none⟩) 3 3] W' fun e w' => e = .returned .nilIface ∧ BkAt w0 w' L S K f { rdyB b f with upload := false, st := setN b.st (3 + 3 * D) [b.version, (l : Int), C] } ∧ Aft W5 w' L S K L S K) := fun W' hb => by
      refine (fset_any (hl1.later hb) HO.out.ok (3 + 3 * (D : Int)) (3 + 3 * D) (by push_cast; rfl) (by omega) rfl (by simp) (hl3.onlyX (OnlyX.of_below hb)) OK1.out HI1.out).mono ?_
      rintro e w' ⟨he, hk, hx⟩
      exact ⟨he, hk, hl2.trans ((Aft.of_below hb).trans (Aft.of_store hx rfl rfl))⟩
    clear hl1 hl2 hl3
    obtain ⟨d7, d8, d9⟩ := HKS5.out _ (Below.refl _ _)
    go_wp2_with (fail)
    go_region_held3 (fun w9 => w9.cell? ⟨K.D, 7, none⟩ = some (.int .i64 D) ∧ w9.cell? ⟨K.D, 8, none⟩ = some (.int .i64 b.version) ∧ w9.cell? ⟨K.D, 9, none⟩ = some (.int .i64 l)) (first | exact HKS5.out _ (Below.drewN (Below.refl _ _) _) | exact HKS5.out _ (Below.drew (Below.refl _ _)) | exact HKA.out _ _ (by assumption) | exact HKS5.out _ (Below.drew ((Below.refl _ _).alloc (Nat.le_refl _) _)) | go_keep) (first
      | (go_at_call 78; with_reducible refine (FS1w.out _ (by first | exact Below.refl _ _ | exact Below.drew (Below.refl _ _) | exact Below.drewN (Below.refl _ _) _)).mono ?_; rintro e wa ⟨rfl, hKa, hAa⟩; obtain ⟨x7, x8, x9⟩ := HKA.out _ _ hKa)
      | (go_at_call 78; with_reducible refine (FS2.out _ hKa).mono ?_; rintro e wc ⟨rfl, hKc, hAc⟩; obtain ⟨y7, y8, y9⟩ := HKA.out _ _ hKc)
      | fail)
    all_goals
      have HKC := Lib.hid hKc
      have HAC : Hid (Aft w wc L S K L S K) := HA5.out.trans (hAa.trans hAc)
      clear hKa hAa hKc hAc
      go_wp2_with (fail)
      (with_reducible refine (FRC.out _ HKC.out).mono ?_)
      rintro e wd ⟨rfl, hk⟩
      have HKD := Lib.hid hk
      clear hk
      go_wp2
      go_ret
      rw [HB.out]
      exact ⟨rfl, .then HAC.out HKD.out⟩
end
end Go.Proofs.Ytjdknddnanopaaa
