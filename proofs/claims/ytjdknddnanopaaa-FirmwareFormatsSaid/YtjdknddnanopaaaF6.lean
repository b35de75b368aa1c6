/-
  Firmware: Format.
-/
import Derived.Test.YtjdknddnanopaaaF5
import Derived.Test.YtjdknddnanopaaaF10
import Derived.Test.YtjdknddnanopaaaW55
namespace Go.Proofs.Ytjdknddnanopaaa
open Go.RowKit
set_option linter.unusedVariables false
set_option linter.unusedSimpArgs false

theorem setN_snoc : ∀ (l : List Int) (s : St) (i : Nat) (x : Int), setN s i (l ++ [x]) = setF (setN s i l) ((i + l.length : Nat) : Int) x
  | [], s, i, x => rfl
  | v :: l, s, i, x => by
    show setN (setF s i v) (i + 1) (l ++ [x]) = _
    rw [setN_snoc l (setF s i v) (i + 1) x, show i + 1 + l.length = i + (v :: l).length by simp; omega]
    rfl
theorem setOk_snoc : ∀ (l : List Int) (s : St) (i : Nat) (x : Int), setOk s i (l ++ [x]) ↔ setOk s i l ∧ setE (setN s i l) ((i + l.length : Nat) : Int) x = 0
  | [], s, i, x => by
    show (setE s i x = 0 ∧ True) ↔ (True ∧ setE s ((i + 0 : Nat) : Int) x = 0)
    simp
  | v :: l, s, i, x => by
    show (setE s i v = 0 ∧ setOk (setF s i v) (i + 1) (l ++ [x])) ↔ _
    rw [setOk_snoc l (setF s i v) (i + 1) x, show i + 1 + l.length = i + (v :: l).length by simp; omega, ← and_assoc]
    rfl
theorem setOk_take {s : St} {i : Nat} : ∀ {l : List Int} {k : Nat} {x : Int}, setOk s i l → l[k]? = some x → setE (setN s i (l.take k)) ((i + k : Nat) : Int) x = 0 ∧ setN s i (l.take (k + 1)) = setF (setN s i (l.take k)) ((i + k : Nat) : Int) x := by
  intro l k x h hx
  have hk := (List.getElem?_eq_some_iff.1 hx).1
  have hl : (l.take k).length = k := by rw [List.length_take]; omega
  have e := take_snoc_get l k x hx
  refine ⟨?_, by rw [e, setN_snoc, hl]⟩
  have h1 : setOk s i (l.take (k + 1)) := by
    clear e hl hx
    induction l generalizing s i k with
    | nil => simp; exact trivial
    | cons v l ih =>
      rw [List.take_succ_cons]
      refine ⟨h.1, ?_⟩
      cases k with
      | zero => rw [List.take_zero]; exact trivial
      | succ k => exact ih h.2 (by simpa using hk)
  rw [e, setOk_snoc, hl] at h1
  exact h1.2
theorem setN_ok {f : Fl} : ∀ {l : List Int} {s : St} {i : Nat}, StOk f s → (∀ x ∈ l, I64 x) → StOk f (setN s i l)
  | [], s, i, h, hl => h
  | v :: l, s, i, h, hl => setN_ok (l := l) (setF_ok h (hl v (by simp))) (fun x hx => hl x (by simp [hx]))

def fmtE (f : Fl) (first blocks v n : Int) : Int := if regE f first blocks ≠ 0 then regE f first blocks else if ¬ (1 ≤ v ∧ v ≤ 1073741824) ∨ ¬ (1 ≤ n ∧ n ≤ (sizeF f blocks.toNat : Nat)) then 3 else 0

section
variable {w0 w w' : World} {L : Lc} {f : Fl}
theorem Only.of_x {S : Sc} {w w1 w2 : World} (h : Only L w w1) (k : OnlyX (Own5 L S) w1 w2) (hD : w.heap.size ≤ S.D) (hG : w.heap.size ≤ S.G) : Only L w w2 :=
  ⟨Nat.le_trans h.size k.size, fun n hn a b c => (k.block n (Nat.lt_of_lt_of_le hn h.size) (fun hx => by rcases hx with e | e | e | e | e <;> omega)).trans (h.block n hn a b c)⟩

theorem erase_anyI (h : FlAt w0 w L f) (bi : Int) (B : Nat) (hbi : bi = B) : Calls Try.prog 63 #[.pointer (some ⟨L.d, 0, none⟩), .int .i64 bi] w fun e w' => e = .returned (errV (eraseF f (B : Int)).2) ∧ FlAt w0 w' L (eraseF f (B : Int)).1 ∧ Only L w w' := by
  subst hbi
  exact erase_any h _
theorem program_anyI (h : FlAt w0 w L f) (pi : Int) (P : Nat) (hpi : pi = P) (A : Option Addr) (m c : Nat) (b : List Int) (hA : Apart L w A (kcells .u8 b)) (hm : b.length = m) (hc : m ≤ c) (hcc : c ≤ maxLen) (hb : Bytes b) :
    Calls Try.prog 65 #[.pointer (some ⟨L.d, 0, none⟩), .int .i64 pi, .slice A m c] w fun e w' => e = .returned (errV (progF f (P : Int) b).2) ∧ FlAt w0 w' L (progF f (P : Int) b).1 ∧ Only L w w' := by
  subst hpi
  exact program_any h _ A m c b hA hm hc hcc hb

theorem set_anyI {S : Sc} {s : St} (h : StAt w0 w L S f s) (ho : StOk f s) (ii : Int) (i : Nat) (hii : ii = i) (v : Int) (he : setE s (i : Int) v = 0) : Calls Try.prog 67 #[.pointer (some ⟨S.D, 0, none⟩), .int .i64 ii, .int .i64 v] w fun e w' => e = .returned .nilIface ∧ StAt w0 w' L S f (setF s (i : Int) v) ∧ OnlyX (Own5 L S) w w' := by
  subst hii
  have := set_any h ho (i : Int) v
  unfold SetR at this
  rw [he, errV_zero] at this
  exact this

theorem fmt_no1 (h : FlAt w0 w L f) (first blocks v : Int) (hf1 : I64 first) (hb1 : I64 blocks) (A : Option Addr) (n c : Nat) (hE : regE f first blocks ≠ 0) :
    Calls Try.prog 18 #[.pointer (some ⟨L.d, 0, none⟩), .int .i64 first, .int .i64 blocks, .int .i64 v, .slice A n c] w fun e w' => e = .returned (errV (fmtE f first blocks v n)) ∧ w = w' := by
  have g2 := ne_err
  have HC := Lib.hid (fcheck_any h first blocks hf1 hb1)
  have HR : Hid (fmtE f first blocks v n = regE f first blocks) := by unfold fmtE; rw [Hid, if_pos hE]
  rw [errV_ne hE] at HC
  have HE := Lib.hid hE
  clear h hE
  go_enter Try.func18, Try.ntmps18
  go_wp2_with (fail)
  (with_reducible refine HC.out.mono ?_)
  rintro e w1 ⟨rfl, rfl⟩
  go_wp2
  go_ret
  exact ⟨by rw [HR.out, errV_ne HE.out]; rfl, rfl⟩
theorem fmt_no2 (h : FlAt w0 w L f) (first blocks v : Int) (hf1 : I64 first) (hb1 : I64 blocks) (A : Option Addr) (n c : Nat) (hE : regE f first blocks = 0) (hv : ¬ (1 ≤ v ∧ v ≤ 1073741824) ∨ ¬ (1 ≤ n ∧ n ≤ sizeF f blocks.toNat)) :
    Calls Try.prog 18 #[.pointer (some ⟨L.d, 0, none⟩), .int .i64 first, .int .i64 blocks, .int .i64 v, .slice A n c] w fun e w' => e = .returned (errV (fmtE f first blocks v n)) ∧ w = w' := by
  have g1 := ne_nil
  obtain ⟨-, a, k, -, hbl, k1, k8, -, -⟩ := regE_zero hE
  have HC := Lib.hid (fcheck_any h first blocks hf1 hb1)
  have HSZ := Lib.hid (fsize_any h k k8 blocks hbl)
  have hbn : blocks.toNat = 2 * k + 2 := by omega
  have HR : Hid (fmtE f first blocks v n = 3) := by unfold fmtE; rw [Hid, if_neg (by rw [hE]; decide), if_pos (by rw [hbn]; rw [hbn] at hv; omega)]
  rw [hE, errV_zero] at HC
  rw [hbn] at hv
  generalize sizeF f (2 * k + 2) = N at *
  have HW1 := Lib.hid (within62 v 1 1073741824)
  have HW2 := Lib.hid (within62 (n : Int) 1 (N : Int))
  by_cases h1 : 1 ≤ v ∧ v ≤ 1073741824
  · rw [decide_eq_true h1] at HW1
    rw [decide_eq_false (show ¬ (1 ≤ (n : Int) ∧ (n : Int) ≤ (N : Int)) by omega)] at HW2
    clear h hE hv hbn hbl h1
    go_enter Try.func18, Try.ntmps18
    go_wp2_with (fail)
    (with_reducible refine HC.out.mono ?_)
    rintro e w1 ⟨rfl, rfl⟩
    go_wp2_with (fail)
    (with_reducible refine (HW1.out _).mono ?_)
    rintro e w1 ⟨rfl, rfl⟩
    go_wp2_with (fail)
    (with_reducible refine HSZ.out.mono ?_)
    rintro e w1 ⟨rfl, rfl⟩
    go_wp2_with (fail)
    (with_reducible refine (HW2.out _).mono ?_)
    rintro e w1 ⟨rfl, rfl⟩
    go_wp2
    go_ret
    exact ⟨by rw [HR.out]; rfl, rfl⟩
  · rw [decide_eq_false h1] at HW1
    clear h hE hv hbn hbl h1
    go_enter Try.func18, Try.ntmps18
    go_wp2_with (fail)
    (with_reducible refine HC.out.mono ?_)
    rintro e w1 ⟨rfl, rfl⟩
    go_wp2_with (fail)
    (with_reducible refine (HW1.out _).mono ?_)
    rintro e w1 ⟨rfl, rfl⟩
    go_wp2
    go_ret
    exact ⟨by rw [HR.out]; rfl, rfl⟩

theorem chunkB_min (img : List Int) {n k : Nat} (hn : img.length = n) (hk : 64 * k < n) : (chunkB img k).length = min 64 (n - 64 * k) := by rw [chunkB_length, hn]

set_option maxRecDepth 100000 in
set_option maxHeartbeats 4000000 in
theorem fmt_yes (h : FlAt w0 w L f) (hu : f.up) (hpk : f.picks = []) (a k : Nat) (hk : 1 ≤ k) (hk8 : k ≤ 8) (hw : a + (2 * k + 2) ≤ f.wear.length) (hp : 2 ≤ f.pg) (v : Int) (hv : 1 ≤ v ∧ v ≤ 1073741824) (A : Option Addr) (n c : Nat) (img : List Int)
    (hA : Apart L w A (kcells .u8 img)) (hn : img.length = n) (hnc : n ≤ c) (hcm : c ≤ maxLen) (hb : Bytes img) (h1 : 1 ≤ n) (h2 : n ≤ sizeF f (2 * k + 2)) (fi bl : Int) (hfi : fi = a) (hbl : bl = ((2 * k + 2 : Nat) : Int)) :
    Calls Try.prog 18 #[.pointer (some ⟨L.d, 0, none⟩), .int .i64 fi, .int .i64 bl, .int .i64 v, .slice A n c] w fun e w' => e = .returned .nilIface ∧ FlAt w0 w' L (fmtC f a (2 * k + 2) v (sumZ img) img).2.1 ∧ Only L w w' := by
  have g1 := ne_nil
  have hsz := sizeF_le h.ok hk8
  have hC := sumZ_u32 img
  have hwl : f.wear.length ≤ 64 := h.ok.b2
  have hpg : f.pg ≤ 16 := h.ok.p2
  have HF0 := Lib.hid h
  obtain ⟨x1, x2, x3, x4, x5, x6, -, -, -, -, -⟩ := fmt_done hu hk hk8 hw hp hb (by rw [hn]; exact h1) (by rw [hn]; exact h2) hv (c := sumZ img) ⟨hC.1, by have := hC.2; omega⟩
  have hE : regE f fi bl = 0 := by
    unfold regE
    rw [if_neg (by rw [hu.dn]; decide), if_neg (by omega), if_neg (by omega), if_neg (by omega)]
  have HC := Lib.hid (fcheck_any h fi bl (by unfold I64; omega) (by unfold I64; omega))
  rw [hE, errV_zero] at HC
  have HSZ := Lib.hid (fsize_any h k hk8 bl hbl)
  obtain ⟨N, hN⟩ : ∃ N, sizeF f (2 * k + 2) = N := ⟨_, rfl⟩
  have HN := Lib.hid hN
  have hN2 : sizeF (fmtG f a (2 * k + 2) img) (2 * k + 2) = N := by rw [← hN]; unfold sizeF; rw [(fmtG_blank hu hw hk hb (by rw [hn]; exact h2)).2.1]
  have HSZ2 : Hid (∀ W', FlAt w0 W' L (fmtG f a (2 * k + 2) img) → Calls Try.prog 56 #[.pointer (some ⟨L.d, 0, none⟩), .int .i64 bl] W' fun e w' => e = .returned (.int .i64 (N : Int)) ∧ W' = w') := fun W' hF => by
    have := fsize_any hF k hk8 bl hbl
    rw [hN2] at this
    exact this
  rw [hN] at HSZ h2 hsz x1 x2 x3 x4 x5
  rw [hn] at x4 x5
  have hfc : fmtC f a (2 * k + 2) v (sumZ img) img = commitS (setN (openF (fmtG f a (2 * k + 2) img) a 2 (fwSpec N)) 3 [v, (n : Int), sumZ img]) (fmtG f a (2 * k + 2) img) := by
    unfold fmtC fmtS
    rw [hN, hn]
    rfl
  rw [hfc] at x6 ⊢
  have HW1 := Lib.hid (within62 v 1 1073741824)
  have HW2 := Lib.hid (within62 (n : Int) 1 (N : Int))
  rw [decide_eq_true hv] at HW1
  rw [decide_eq_true (show 1 ≤ (n : Int) ∧ (n : Int) ≤ (N : Int) by omega)] at HW2
  obtain ⟨gu, gp, gw, gk, -, gr, -, gb⟩ := fmtG_blank hu hw hk hb (by rw [hn, hN]; exact h2)
  rw [hn] at gr gb
  have HGK : Hid ((fmtG f a (2 * k + 2) img).picks = []) := gk.trans hpk
  have HGP := Lib.hid gp
  have HGB := Lib.hid gb
  have heu := eraseN_up hu (a := a) (n := 2 * k + 2) hw
  have hnp : (a + 2) * f.pg + nPages n ≤ f.wear.length * f.pg := Nat.le_trans gr (Nat.mul_le_mul_right _ (by omega))
  have h1024 : f.wear.length * f.pg ≤ 1024 := pages_1024 h.ok
  have HEU := Lib.hid heu
  have HG : Hid (fmtG f a (2 * k + 2) img = progN (eraseN f a (2 * k + 2)) ((a + 2) * f.pg) img (nPages n)) := by rw [Hid, ← hn]; rfl
  have HPC : Hid (∀ m < nPages n, (progF (progN (eraseN f a (2 * k + 2)) ((a + 2) * f.pg) img m) (((a + 2) * f.pg + m : Nat) : Int) (padB (chunkB img m))).2 = 0) :=
    fun m hm => progN_code heu.up hb (by rw [heu.wl, heu.pg]; exact hnp) gb hm
  have HOO : Hid (setOk (openF (fmtG f a (2 * k + 2) img) a 2 (fwSpec N)) 3 [v, (n : Int), sumZ img]) := ⟨x3, x4, x5, trivial⟩
  have HS0 : Hid (StOk (fmtG f a (2 * k + 2) img) (openF (fmtG f a (2 * k + 2) img) a 2 (fwSpec N))) := openF_ok x2 x1
  have HVI : Hid (∀ x ∈ [v, (n : Int), sumZ img], I64 x) := fun x hx => by
    unfold U32 at hC
    simp only [List.mem_cons, List.not_mem_nil, or_false] at hx
    rcases hx with rfl | rfl | rfl <;> (unfold I64; omega)
  have X1 := Lib.hid x1
  have X2 := Lib.hid x2
  have X6 := Lib.hid x6
  obtain ⟨Cs, hCs⟩ : ∃ x, sumZ img = x := ⟨_, rfl⟩
  have hC2 : 0 ≤ Cs ∧ Cs < 4294967296 := by rw [← hCs]; exact hC
  rw [hCs] at HOO X6 HVI ⊢
  obtain ⟨P, hP⟩ : ∃ P, (a + 2) * f.pg = P := ⟨_, rfl⟩
  have hPi : ((a : Int) + 2) * (f.pg : Int) = (P : Int) := by rw [← hP]; push_cast; rfl
  rw [hP] at hnp HGB HPC HG
  have HNN := Lib.hid hn
  have HA := Lib.hid hA
  have HB := Lib.hid hb
  have HU := Lib.hid hu
  have HHW := Lib.hid hw
  obtain ⟨K, hK⟩ : ∃ K, 2 * k + 2 = K := ⟨_, rfl⟩
  have hKb : 4 ≤ K ∧ K ≤ 18 := by omega
  rw [hK] at hbl HSZ2 HGK HGP HGB HEU HHW HG HPC HOO HS0 X1 X6 ⊢
  have hfa : (0 : Int) ≤ fi ∧ fi ≤ 64 := by omega
  have hnN : nPages n * 64 < n + 64 ∧ n ≤ nPages n * 64 := by unfold nPages; omega
  obtain ⟨np, hnpp⟩ : ∃ x, nPages n = x := ⟨_, rfl⟩
  rw [hnpp] at hnN hnp HGB HPC HG
  obtain ⟨hnN1, hnN2⟩ := hnN
  obtain ⟨hKb1, hKb2⟩ := hKb
  obtain ⟨hfa1, hfa2⟩ := hfa
  obtain ⟨hC20, hC21⟩ := hC2
  have hw' : (a : Int) + K ≤ 64 := by omega
  have hP1 : P + np ≤ 1024 := Nat.le_trans hnp h1024
  have HCS := Lib.hid hCs
  obtain ⟨G, hG⟩ : ∃ x, fmtG f a K img = x := ⟨_, rfl⟩
  rw [hG] at HGK HG HGP HOO HS0 X1 X6 HSZ2 ⊢
  have q1 : IntKind.i64.wrap ((a : Int) + 2) = (a : Int) + 2 := IntWalk.i64_in _ (by omega)
  have q2 : IntKind.i64.wrap (((a : Int) + 2) * (f.pg : Int)) = (P : Int) := by rw [hPi]; exact IntWalk.i64_in _ (by omega)
  have q3 : IntKind.i64.wrap Cs = Cs := IntWalk.i64_in _ (by omega)
  unfold maxLen at hcm
  clear h hpk hA hn hb hu hE hC gp gw gk gu gb heu hP hN hN2 hwl hpg hk hk8 hw hK gr hPi h1024 hv hG hCs hnpp hnp hfc x1 x2 x3 x4 x5 x6 hp
  subst hfi hbl
  go_enter Try.func18, Try.ntmps18
  go_wp2_with (fail)
  (with_reducible refine HC.out.mono ?_)
  rintro e w1 ⟨rfl, rfl⟩
  go_wp2_with (fail)
  (with_reducible refine (HW1.out _).mono ?_)
  rintro e w1 ⟨rfl, rfl⟩
  go_wp2_with (fail)
  (with_reducible refine HSZ.out.mono ?_)
  rintro e w1 ⟨rfl, rfl⟩
  go_wp2_with (fail)
  (with_reducible refine (HW2.out _).mono ?_)
  rintro e w1 ⟨rfl, rfl⟩
  go_wp2_with (fail)
  go_loopw [41] (fun i wr => ∃ j : Nat, j ≤ K ∧ i = .int .i64 j ∧ FlAt w0 wr L (eraseN f a j) ∧ Only L w wr) (fun i _ => K - (intOf i).toNat)
  case atStart => exact ⟨0, Nat.zero_le _, rfl, HF0.out, Only.refl _ _⟩
  case round =>
    obtain ⟨j, hj, rfl, hF, hO⟩ := hrel
    have HF := Lib.hid hF
    have HO := Lib.hid hO
    clear hF hO
    by_cases hlt : j < K
    · have HER := Lib.hid (erase_anyI HF.out ((a : Int) + (j : Int)) (a + j) (by push_cast; rfl))
      rw [eraseN_code HU.out HHW.out hlt, errV_zero] at HER
      go_wp2_with (fail)
      (with_reducible refine HER.out.mono ?_)
      rintro e w2 ⟨rfl, hF2, hO2⟩
      have HF2 : Hid (FlAt w0 w2 L (eraseN f a (j + 1))) := hF2
      have HO2 : Hid (Only L w w2) := HO.out.trans hO2
      clear hF2 hO2
      go_wp2_with (fail)
      go_roundw
      case rel => exact ⟨j + 1, by omega, by go_num, HF2.out, HO2.out⟩
      case measure => simp [intOf]; omega
    · have hjK : j = K := by omega
      subst hjK
      have HPG := Lib.hid (pages_any HF.out)
      rw [HEU.out.pg] at HPG
      go_wp2_with (fail)
      (with_reducible refine HPG.out.mono ?_)
      rintro e w1 ⟨rfl, rfl⟩
      go_wp2_with (fail)
      go_loopw [14] (fun i wr => ∃ m : Nat, m ≤ np ∧ i = .int .i64 m ∧ FlAt w0 wr L (progN (eraseN f a j) P img m) ∧ Only L w wr) (fun i _ => np - (intOf i).toNat)
      case atStart => exact ⟨0, Nat.zero_le _, rfl, HF.out, HO.out⟩
      case round =>
        obtain ⟨m, hm, rfl, hF, hO⟩ := hrel
        have HF1 := Lib.hid hF
        have HO1 := Lib.hid hO
        clear hF hO
        by_cases hlt2 : m < np
        · obtain ⟨bb, off, rfl⟩ : ∃ b off, A = some ⟨b, off, none⟩ := by
            obtain ⟨b, off, e, _⟩ := HA.out.rd (by
              intro e
              have := kcells_length .u8 img
              rw [e, HNN.out] at this
              simp at this
              omega)
            exact ⟨b, off, e⟩
          have HRD : Hid (Rd wr wr.heap.size (some ⟨bb, off + m * 64, none⟩) (kcells .u8 (chunkB img m))) := by rw [Hid, Nat.mul_comm m 64]; exact (HA.out.only HO1.out).rd.part (64 * m) 64
          obtain ⟨M, hM⟩ : ∃ M, min 64 (n - 64 * m) = M := ⟨_, rfl⟩
          have HCL : Hid ((chunkB img m).length = M) := by rw [Hid, chunkB_length, HNN.out, hM]
          have hM2 : 1 ≤ M ∧ M ≤ 64 ∧ 64 * m + M ≤ n := by omega
          obtain ⟨hM3, hM4, hM5⟩ := hM2
          have hmin : min (n : Int) (((m : Int) + 1) * 64) = (m : Int) * 64 + (M : Int) := by omega
          clear hM
          go_wp2_with (fail)
          (with_reducible refine (pad_any (some ⟨bb, off + m * 64, none⟩) M (c - m * 64) (chunkB img m) wr HRD.out HCL.out hM4).mono ?_)
          rintro e w2 ⟨A2, c2, rfl, hO, hB⟩
          obtain ⟨A3, c3, e3, h4, h5, -⟩ := own_form hO
          injection e3 with e31 e32 e33
          subst e31 e33
          have HPR := Lib.hid (program_anyI (HF1.out.later hB) ((P : Int) + (m : Int)) (P + m) (by push_cast; rfl) A2 64 c2 (padB (chunkB img m)) (apart_own HF1.out (by rw [kcells_length]; exact padB_length (by rw [HCL.out]; exact hM4)) hO) (padB_length (by rw [HCL.out]; exact hM4)) h4 h5 (padB_bytes (chunkB_bytes HB.out m)))
          rw [HPC.out m hlt2, errV_zero] at HPR
          have HB2 : Hid (Only L wr w2) := Only.of_below hB
          clear hO hB h4 h5 e32
          go_wp2_with (fail)
          (with_reducible refine HPR.out.mono ?_)
          rintro e w3 ⟨rfl, hF2, hO2⟩
          have HF3 : Hid (FlAt w0 w3 L (progN (eraseN f a j) P img (m + 1))) := hF2
          have HO3 : Hid (Only L w w3) := (HO1.out.trans HB2.out).trans hO2
          clear hF2 hO2
          go_wp2_with (fail)
          go_roundw
          case rel => exact ⟨m + 1, by omega, by go_num, HF3.out, HO3.out⟩
          case measure => simp [intOf]; omega
        · have hmn : m = np := by omega
          subst hmn
          have HFG : Hid (FlAt w0 wr L G) := by rw [HG.out]; exact HF1.out
          go_wp2_with (fail)
          (with_reducible refine (HSZ2.out _ HFG.out).mono ?_)
          rintro e w1 ⟨rfl, rfl⟩
          go_wp2_with (fail)
          (with_reducible refine (fspec_any N (by omega) _).mono ?_)
          rintro e w2 ⟨As, cs, rfl, hs1, hs2, hs3, hB⟩
          have HOP := Lib.hid (open_yesI (HFG.out.later hB) (a : Int) 2 a 2 rfl rfl As 9 cs (fwSpec N) hs3 rfl hs1 hs2 X2.out X1.out (by rw [HGK.out]; exact RdX.nil))
          have HO2 : Hid (Only L w w2) := HO1.out.trans (Only.of_below hB)
          clear hs1 hs2 hs3 hB
          go_wp2_with (fail)
          (with_reducible refine HOP.out.mono ?_)
          rintro e w3 ⟨S, rfl, hS, hB, hD, hG⟩
          have HS := Lib.hid hS
          have HO3 : Hid (Only L w w3) := HO2.out.trans (Only.of_below hB)
          have HDG : Hid (w.heap.size ≤ S.D ∧ w.heap.size ≤ S.G) := ⟨Nat.le_trans HO2.out.size hD, Nat.le_trans HO2.out.size hG⟩
          clear hS hB hD hG
          go_wp2_with (fail)
          (with_reducible refine (fsum_any A n c img w3 (HA.out.only HO3.out).rd HNN.out HB.out (by omega)).mono ?_)
          rintro e w4 ⟨rfl, q, rfl⟩
          rw [HCS.out]
          have HS4 := Lib.hid (HS.out.later (Below.drewN (Below.refl w3.heap.size w3) q))
          have HO4 : Hid (Only L w (w3.drewN q)) := HO3.out.trans (Only.of_below (Below.drewN (Below.refl w3.heap.size w3) q))
          obtain ⟨W4, hW4⟩ : ∃ x, w3.drewN q = x := ⟨_, rfl⟩
          rw [hW4] at HS4 HO4 ⊢
          clear hW4
          go_wp2_with (fail)
          obtain ⟨W5, hW5⟩ : ∃ x, W4.alloc (.cells #[.int .i64 v, .int .i64 n, .int .i64 Cs] 3) = x := ⟨_, rfl⟩
          have hB5 : Below W4.heap.size W4 W5 := by rw [← hW5]; exact (Below.refl _ _).alloc (Nat.le_refl _) _
          have HR5 : Hid (RdX (Own5 L S) W5 (some ⟨W4.heap.size, 0, none⟩) (icells [v, (n : Int), Cs])) := by
            rw [← hW5]
            refine rdx_at (Rd.new W4 _ _ _ rfl) (by rw [World.size_alloc]; exact Nat.le_refl _) (fun hx => ?_)
            have := HS4.out.own_lt _ (.inl hx)
            omega
          have HS5 := Lib.hid (HS4.out.later hB5)
          have HO5 : Hid (Only L w W5) := HO4.out.trans (Only.of_below hB5)
          rw [hW5]
          clear hW5 hB5
          go_loopw [103] (fun i wr => ∃ j : Nat, j ≤ 3 ∧ i = .int .i64 j ∧ StAt w0 wr L S G (setN (openF G a 2 (fwSpec N)) 3 ([v, (n : Int), Cs].take j)) ∧ OnlyX (Own5 L S) W5 wr) (fun i _ => 3 - (intOf i).toNat)
          case atStart => exact ⟨0, Nat.zero_le _, rfl, HS5.out, OnlyX.refl _ _⟩
          case round =>
            obtain ⟨r, hr, rfl, hS, hX⟩ := hrel
            have HS6 := Lib.hid hS
            have HX6 := Lib.hid hX
            clear hS hX
            by_cases hr3 : r < 3
            · obtain ⟨x, hx⟩ := getElem?_of_lt (l := [v, (n : Int), Cs]) (k := r) hr3
              obtain ⟨bb, off, e, hbl, e0⟩ := (HR5.out.onlyX HX6.out).rd.int hx
              injection e with e
              injection e with e1 e2
              subst e1 e2
              rw [Nat.zero_add] at e0
              obtain ⟨t1, t2⟩ := setOk_take HOO.out hx
              have HST := Lib.hid (set_anyI HS6.out (setN_ok HS0.out (fun y hy => HVI.out y (List.mem_of_mem_take hy))) (3 + (r : Int)) (3 + r) (by push_cast; rfl) x t1)
              rw [← t2] at HST
              clear hx hbl t1 t2
              go_wp2_with (fail)
              (with_reducible refine HST.out.mono ?_)
              rintro e w7 ⟨rfl, hS, hX⟩
              have HS7 := Lib.hid hS
              have HX7 : Hid (OnlyX (Own5 L S) W5 w7) := HX6.out.trans hX
              clear hS hX
              go_wp2_with (fail)
              go_roundw
              case rel => exact ⟨r + 1, by omega, by go_num, HS7.out, HX7.out⟩
              case measure => simp [intOf]; omega
            · have hr4 : r = 3 := by omega
              subst hr4
              have HS7 : Hid (StAt w0 wr L S G (setN (openF G a 2 (fwSpec N)) 3 [v, (n : Int), Cs])) := HS6.out
              have HCM := Lib.hid (commit_any HS7.out (setN_ok HS0.out HVI.out))
              unfold CommitR at HCM
              rw [X6.out, errV_zero] at HCM
              go_wp2_with (fail)
              (with_reducible refine HCM.out.mono ?_)
              rintro e w8 ⟨rfl, ⟨S8, hd8, hg8, hs8⟩, ho8⟩
              have HF8 := Lib.hid hs8.fl
              have HO8 : Hid (Only L w w8) := HO5.out.of_x (HX6.out.trans ho8) HDG.out.1 HDG.out.2
              clear hd8 hg8 hs8 ho8
              go_wp2
              go_ret
              exact ⟨rfl, HF8.out, HO8.out⟩
end
end Go.Proofs.Ytjdknddnanopaaa
