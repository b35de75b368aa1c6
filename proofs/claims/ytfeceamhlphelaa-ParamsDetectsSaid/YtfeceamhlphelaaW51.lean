/-
  Params: Open.
-/
import Derived.Test.YtfeceamhlphelaaW50
namespace Go.Proofs.Ytfeceamhlphelaa
open Go.RowKit
set_option linter.unusedVariables false
set_option pp.deepTerms true

theorem own_box {w : World} {base e size : Nat} {cs : Array Value} {xs : List Value} (hc : cs.toList = xs) (hl : xs.length = size) (hb : base ≤ w.heap.size) :
    (w.alloc (.cells cs e)).ownsRow base e size (.slice (some ⟨w.heap.size, 0, none⟩) 1 1) 1 xs := by
  refine ⟨by omega, .inr ⟨w.heap.size, 1, cs, rfl, hb, ?_, Nat.le_refl _, by unfold maxLen; omega, ?_, ?_⟩⟩
  · show (w.heap.push _)[w.heap.size]? = _
    simp
  · rw [← Array.length_toList, hc]; omega
  · rw [hc, List.take_of_length_le (by omega)]

theorem openE_zero {f : Fl} {first blocks : Int} {sp : List Par} (h : openE f first blocks sp = 0) : f.down = false ∧ 2 ≤ blocks ∧ blocks ≤ 16 ∧ 0 ≤ first ∧ first ≤ (f.wear.length : Int) - blocks ∧ 1 ≤ sp.length ∧ sp.length ≤ 48 ∧ sp.any badP = false ∧ pgs sp.length ≤ f.pg := by
  unfold openE at h
  split at h
  · cases h
  split at h
  · cases h
  split at h
  · cases h
  split at h
  · cases h
  split at h
  · cases h
  split at h
  · cases h
  rename_i a b c d e g
  exact ⟨by simpa using a, by omega, by omega, by omega, by omega, by omega, by omega, (Bool.not_eq_true _).mp e, by omega⟩

/-- What the search leaves alone. -/
structure Kp (a c : St) : Prop where
  f : c.first = a.first
  b : c.blocks = a.blocks
  s : c.spec = a.spec
  l : a.saved.length = a.spec.length → c.saved.length = a.spec.length
theorem Kp.refl (s : St) : Kp s s := ⟨rfl, rfl, rfl, fun h => h⟩
theorem Kp.trans {a b c : St} (h : Kp a b) (k : Kp b c) : Kp a c := ⟨k.f.trans h.f, k.b.trans h.b, k.s.trans h.s, fun e => by rw [← h.s]; exact k.l (by rw [h.s]; exact h.l e)⟩
theorem openStep_kp (f : Fl) (s : St) (b j : Nat) : Kp s (openStep f s b j) := by
  unfold openStep
  simp only
  split
  · exact .refl s
  · rename_i h
    exact ⟨rfl, rfl, rfl, fun _ => legal_length (by omega)⟩
theorem openRow_succ (f : Fl) (b : Nat) (s : St) (n : Nat) : openRow f b s (n + 1) = openStep f (openRow f b s n) b n := by
  unfold openRow
  rw [List.range_succ, List.foldl_append]
  rfl
theorem openAll_succ (f : Fl) (n : Nat) (s : St) (m : Nat) : openAll f n s (m + 1) = openRow f m (openAll f n s m) n := by
  unfold openAll
  rw [List.range_succ, List.foldl_append]
  rfl
theorem openRow_kp (f : Fl) (b : Nat) (s : St) (n : Nat) : Kp s (openRow f b s n) := by
  induction n with
  | zero => exact .refl s
  | succ n ih => rw [openRow_succ]; exact ih.trans (openStep_kp _ _ _ _)
theorem openAll_kp (f : Fl) (n : Nat) (s : St) (m : Nat) : Kp s (openAll f n s m) := by
  induction m with
  | zero => exact .refl s
  | succ m ih => rw [openAll_succ]; exact ih.trans (openRow_kp _ _ _ _)
theorem initS_len (fi bl : Nat) (sp : List Par) : (initS fi bl sp).saved.length = (initS fi bl sp).spec.length := by simp [initS]
/-- A slot whose record is not taken. -/
theorem openStep_no {f : Fl} {s : St} {b j : Nat} {d : Int × List Int × Int} (hd : decP (pagesF f (pageS s f b j) s.k) = d) (h : d.2.2 ≠ 0 ∨ d.2.1.length ≠ s.spec.length ∨ d.1 ≤ s.seq) : openStep f s b j = s := by
  unfold openStep
  rw [hd]
  exact if_pos h
theorem openStep_yes {f : Fl} {s : St} {b j : Nat} {d : Int × List Int × Int} (hd : decP (pagesF f (pageS s f b j) s.k) = d) (h : ¬ (d.2.2 ≠ 0 ∨ d.2.1.length ≠ s.spec.length ∨ d.1 ≤ s.seq)) : openStep f s b j = { s with seq := d.1, block := b, slot := j, saved := legal s.spec d.2.1 } := by
  unfold openStep
  rw [hd]
  exact if_neg h
theorem pagesF_get {f : Fl} {a n i : Nat} {p : List Int} (h : (pagesF f a n)[i]? = some p) : p = pageF f (a + i) := by
  unfold pagesF at h
  have hi : i < n := by have := (List.getElem?_eq_some_iff.1 h).1; simpa using this
  rw [List.getElem?_map, List.getElem?_range hi] at h
  injection h with h
  exact h.symm
theorem pagesF_bytes {f : Fl} (hf : f.ok) {a n : Nat} : ∀ p ∈ pagesF f a n, Bytes p := by
  intro p hp
  obtain ⟨i, hi⟩ := List.mem_iff_getElem?.1 hp
  rw [pagesF_get hi]
  exact pageF_bytes hf _
theorem pagesF_len (f : Fl) (a n : Nat) : (pagesF f a n).length = n := by simp [pagesF]

theorem OpAt.qbs {w wr : World} {L : Lc} {S : Sc} {s : St} (h : OpAt w wr L S s) (q : Int) (b : Nat) (j : Int) :
    OpAt w (((wr.setCell ⟨S.D, 6, none⟩ (.int .i64 q)).setCell ⟨S.D, 7, none⟩ (.int .i64 b)).setCell ⟨S.D, 8, none⟩ (.int .i64 j)) L S { s with seq := q, block := b, slot := j } ∧
    wr.grownBy (((wr.setCell ⟨S.D, 6, none⟩ (.int .i64 q)).setCell ⟨S.D, 7, none⟩ (.int .i64 b)).setCell ⟨S.D, 8, none⟩ (.int .i64 j)) (some S.D) := by
  have a1 := h.cell 6 (.int .i64 q) S { s with seq := q } rfl rfl ⟨rfl, rfl, rfl⟩ h.sv h.p0 h.v0 h.t0
  have a2 := a1.cell 7 (.int .i64 b) S { s with seq := q, block := b } rfl rfl ⟨rfl, rfl, rfl⟩ a1.sv h.p0 h.v0 h.t0
  have a3 := a2.cell 8 (.int .i64 j) S { s with seq := q, block := b, slot := j } rfl rfl ⟨rfl, rfl, rfl⟩ a2.sv h.p0 h.v0 h.t0
  exact ⟨a3, ((h.own.stored 6 _).2.trans (a1.own.stored 7 _).2).trans (a2.own.stored 8 _).2⟩

/-- What Open leaves. -/
def OpenR (w0 w : World) (L : Lc) (f : Fl) (s : St) (e : Ending) (w' : World) : Prop :=
  ∃ S, e = .returned (.tuple #[.pointer (some ⟨S.D, 0, none⟩), .nilIface]) ∧ StAt w0 w' L S f s ∧ Below w.heap.size w w' ∧ w.heap.size ≤ S.D ∧ w.heap.size ≤ S.G

section
variable {w0 w : World} {L : Lc} {f : Fl}

theorem open_no (h : FlAt w0 w L f) (first blocks : Int) (hf1 : I64 first) (hb1 : I64 blocks) (A : Option Addr) (n c : Nat) (sp : List Par) (hA : Rd w w.heap.size A (pcells sp)) (hn : sp.length = n) (hnc : n ≤ c) (hcm : c ≤ maxLen) (hok : ∀ p ∈ sp, p.ok) (he : openE f first blocks sp ≠ 0) :
    Calls Try.prog 56 #[.pointer (some ⟨L.d, 0, none⟩), .int .i64 first, .int .i64 blocks, .slice A n c] w fun e w' => e = .returned (.tuple #[.pointer none, errV (openE f first blocks sp)]) ∧ Below w.heap.size w w' := by
  have g2 := ne_err
  have HC := Lib.hid (check_any h first blocks hf1 hb1 A n c sp hA hn hnc hcm hok)
  have HE := Lib.hid (errV_ne he)
  rw [HE.out] at HC ⊢
  generalize openE f first blocks sp = k at *
  clear h hA hn hnc hcm hok he
  go_enter Try.func56, Try.ntmps56
  go_wp2_with (fail)
  (with_reducible refine HC.out.mono ?_)
  rintro e w1 ⟨rfl, hb⟩
  have HB := Lib.hid hb
  clear hb
  go_wp2
  go_ret2
  exact ⟨rfl, HB.out⟩

set_option maxRecDepth 100000 in
set_option maxHeartbeats 16000000 in
theorem open_yes (h : FlAt w0 w L f) (fi bl : Nat) (A : Option Addr) (n c : Nat) (sp : List Par) (hA : Rd w w.heap.size A (pcells sp)) (hn : sp.length = n) (hnc : n ≤ c) (hcm : c ≤ maxLen) (hok : ∀ p ∈ sp, p.ok) (he : openE f fi bl sp = 0) :
    Calls Try.prog 56 #[.pointer (some ⟨L.d, 0, none⟩), .int .i64 fi, .int .i64 bl, .slice A n c] w (OpenR w0 w L f (openF f fi bl sp)) := by
  have g1 := ne_nil
  have g2 := ne_err
  obtain ⟨hd, b2, b16, f0, f1, n1, n48, hbad, hkp⟩ := openE_zero he
  have hw := h.ok.b2
  have HC := Lib.hid (check_any h fi bl (by unfold I64; omega) (by unfold I64; omega) A n c sp hA hn hnc hcm hok)
  rw [he, errV_zero] at HC
  rw [hn] at n1 n48 hkp
  unfold maxLen at hcm
  have H := Lib.hid h
  have HA := Lib.hid hA
  have HN := Lib.hid hn
  have HOK := Lib.hid hok
  have HD := Lib.hid hd
  have HKP := Lib.hid hkp
  have hfw : fi + bl ≤ f.wear.length := by omega
  have HFW := Lib.hid hfw
  clear h hA hn hok he hd hbad hkp f1 hfw
  go_enter Try.func56, Try.ntmps56
  go_wp2_with (fail)
  (with_reducible refine HC.out.mono ?_)
  rintro e w1 ⟨rfl, hb⟩
  have HB1 := Lib.hid hb
  have HCL := Lib.hid (clonep_any A n c w1.heap.size sp w1 (HA.out.below hb (Nat.le_refl _) |>.more hb.size) (Nat.le_refl _) HN.out (by omega))
  clear hb
  go_wp2_with (fail)
  (with_reducible refine HCL.out.mono ?_)
  rintro e w2 ⟨v', rfl, ho, hb⟩
  obtain ⟨As, cs, rfl, hs1, hs2, _⟩ := own_form ho
  have HB2 : Hid (Below w.heap.size w w2) := HB1.out.trans (hb.mono HB1.out.size)
  have HSP : Hid (w2.ownsRow w.heap.size 99 3 (.slice As n cs) n (pcells sp)) := own_low ho HB1.out.size
  unfold maxLen at hs2
  clear ho hb
  obtain ⟨W, hW⟩ : ∃ W, w2.alloc (.cells #[.pointer (some ⟨L.d, 0, none⟩), .int .i64 fi, .int .i64 bl, .slice As n cs, .slice none 0 0, .slice none 0 0, .int .i64 0, .int .i64 0, .int .i64 (-1), .bool false, .slice none 0 0, .slice none 0 0, .int .i64 0, .int .i64 0, .int .i64 0, .bool false, .bool false] 146) = W := ⟨_, rfl⟩
  have HOP : Hid (OpAt w W L ⟨w2.heap.size, 0, 0, As, cs, none, 0, none, 0, none, 0⟩ { initS fi bl sp with saved := [] }) := by
    have hb := (Below.refl w2.heap.size w2).alloc (Nat.le_refl _) (.cells #[.pointer (some ⟨L.d, 0, none⟩), .int .i64 fi, .int .i64 bl, .slice As n cs, .slice none 0 0, .slice none 0 0, .int .i64 0, .int .i64 0, .int .i64 (-1), .bool false, .slice none 0 0, .slice none 0 0, .int .i64 0, .int .i64 0, .int .i64 0, .bool false, .bool false] 146)
    rw [← hW]
    refine ⟨HB2.out.trans (hb.mono HB2.out.size), own_box ?_ rfl HB2.out.size, ?_, World.ownsRow_nil _ _ _ _, ⟨rfl, rfl, rfl⟩, ⟨rfl, rfl, rfl⟩, rfl⟩
    · simp [opCells, Sc.cells, initS, HN.out]
    · simp only [initS, HN.out]
      exact own_below HSP.out hb
  have hDW : w2.heap.size < W.heap.size := HOP.out.lt.2
  obtain ⟨D, hD⟩ : ∃ D, w2.heap.size = D := ⟨_, rfl⟩
  rw [hD] at HOP hDW
  obtain ⟨i3, hi3, hz30, hz31, hz32⟩ := info_parts info3
  go_wp2
  go_loopw [37] (fun i wr => ∃ k : Nat, k ≤ n ∧ i = .int .i64 k ∧ ∃ Av cv, OpAt w wr L ⟨D, 0, 0, As, cs, Av, cv, none, 0, none, 0⟩ { initS fi bl sp with saved := (sp.map Par.df).take k }) (fun i _ => n - (intOf i).toNat)
  case atStart => exact ⟨0, Nat.zero_le _, rfl, none, 0, HOP.out⟩
  case round =>
    obtain ⟨k, hk, rfl, Av, cv, hO⟩ := hrel
    have HO := Lib.hid hO
    clear hO
    by_cases hlt : k < n
    · obtain ⟨p, hp⟩ := getElem?_of_lt (l := sp) (k := k) (by rw [HN.out]; exact hlt)
      obtain ⟨b, off, rfl, hbl, e0, e1, e2⟩ := (RdX.of (X := fun _ => False) (HA.out.below HO.out.below (Nat.le_refl _)) HO.out.below.size (fun _ h => h.elim)).par hp
      have HP := Lib.hid hp
      obtain ⟨V, hV⟩ : ∃ V, wr.alloc (.cells #[.int .i64 p.lo, .int .i64 p.hi, .int .i64 p.df] 99) = V := ⟨_, rfl⟩
      have HBV : Hid (Below wr.heap.size wr V) := by rw [← hV]; exact (Below.refl _ _).alloc (Nat.le_refl _) _
      have HOV := Lib.hid (HO.out.later HBV.out)
      have d2 : V.cell? ⟨wr.heap.size, 2, none⟩ = some (.int .i64 p.df) := by rw [← hV, World.cell?_alloc_new]; rfl
      have c4 := HOV.out.row 4 _ rfl
      have hlk : ((sp.map Par.df).take k).length = k := by rw [List.length_take, List.length_map, HN.out]; omega
      simp only [hlk] at c4
      have HSV : Hid (∀ W', Below V.heap.size V W' → W'.ownsRow w.heap.size 3 1 (.slice Av k cv) k (icells ((sp.map Par.df).take k))) := fun W' hb => by
        have := (HOV.out.later hb).sv
        simp only [hlk] at this
        exact this
      have HGR : Hid (∀ W' w9 v9, Below V.heap.size V W' → W'.grownBy w9 (Value.slice Av k cv).ownBlock → w9.ownsRow w.heap.size 3 1 v9 (k + 1) (icells ((sp.map Par.df).take k) ++ [.int .i64 p.df]) →
          (∃ A9 c9, v9 = .slice A9 (k + 1) c9 ∧ OpAt w (w9.setCell ⟨D, 4, none⟩ v9) L ⟨D, 0, 0, As, cs, A9, c9, none, 0, none, 0⟩ { initS fi bl sp with saved := (sp.map Par.df).take (k + 1) }) ∧ w9.cell? ⟨D, 4, none⟩ = some (.slice Av k cv) ∧ w9.frozen? ⟨D, 4, none⟩ = false) := by
        intro W' w9 v9 hb hg ho
        have hop := HOV.out.later hb
        have hsv := hop.sv
        simp only [hlk] at hsv
        have hown : w9.ownsRow w.heap.size 146 17 (.slice (some ⟨D, 0, none⟩) 1 1) 1 _ := kept_of hop.own hg (fun g hg e => own_ne_own hsv hop.own (by decide) g e hg)
        have hsp : w9.ownsRow w.heap.size 99 3 _ _ _ := kept_of hop.sp hg (fun g hg e => own_ne_own hsv hop.sp (by decide) g e hg)
        have hbel : Below w.heap.size w w9 := hop.below.grown hg hop.below.size (fun k hk => (hsv.lt k hk).1)
        obtain ⟨A9, c9, rfl, _⟩ := own_form ho
        have hp9 : (sp.map Par.df)[k]? = some p.df := by rw [List.getElem?_map, HP.out]; rfl
        have hlk1 : ((sp.map Par.df).take (k + 1)).length = k + 1 := by rw [List.length_take, List.length_map, HN.out]; omega
        have hc9 : icells ((sp.map Par.df).take k) ++ [.int .i64 p.df] = icells ((sp.map Par.df).take (k + 1)) := by
          rw [take_snoc_get _ k _ hp9, icells, icells, List.map_append]
          rfl
        rw [hc9] at ho
        have hop9 : OpAt w w9 L ⟨D, 0, 0, As, cs, Av, cv, none, 0, none, 0⟩ { initS fi bl sp with saved := (sp.map Par.df).take k } → True := fun _ => trivial
        have hst := hown.stored 4 (.slice A9 (k + 1) c9)
        refine ⟨⟨A9, c9, rfl, hbel.setCell (p := ⟨D, 4, none⟩) (hown.lt _ rfl).1 _, ?_, ?_, ?_, ⟨rfl, rfl, rfl⟩, ⟨rfl, rfl, rfl⟩, rfl⟩, ?_, hown.frozenAt _⟩
        · have h1 := hst.1
          have e : opCells ⟨D, 0, 0, As, cs, A9, c9, none, 0, none, 0⟩ L.d { initS fi bl sp with saved := (sp.map Par.df).take (k + 1) } = (opCells ⟨D, 0, 0, As, cs, Av, cv, none, 0, none, 0⟩ L.d { initS fi bl sp with saved := (sp.map Par.df).take k }).set 4 (.slice A9 (k + 1) c9) := by
            unfold opCells Sc.cells
            simp only [hlk1]
            rfl
          rw [e]
          exact h1
        · exact kept_of hsp hst.2 (fun g hg e => own_ne_own hown hsp (by decide) g e hg)
        · simp only [hlk1]
          exact kept_of ho hst.2 (fun g hg e => own_ne_own hown ho (by decide) g e hg)
        · rw [hown.cellAt 4 (by omega)]
          have := hlk
          simp only [opCells, Sc.cells, List.getElem?_set, this]
          rfl
      have hlt4 : D < V.heap.size := World.block_lt_of_cell? V _ c4
      have hlt2 : wr.heap.size < V.heap.size := World.block_lt_of_cell? V _ d2
      have x4 : (V.alloc (.cells #[.int .i64 p.df] 3)).cell? ⟨D, 4, none⟩ = some (.slice Av k cv) := (((Below.refl V.heap.size V).alloc (Nat.le_refl _) _).cell (p := ⟨D, 4, none⟩) hlt4).trans c4
      have x2 : (V.alloc (.cells #[.int .i64 p.df] 3)).cell? ⟨wr.heap.size, 2, none⟩ = some (.int .i64 p.df) := (((Below.refl V.heap.size V).alloc (Nat.le_refl _) _).cell (p := ⟨wr.heap.size, 2, none⟩) hlt2).trans d2
      clear hlk hp
      go_wp2
      clear e0 e1 e2
      go_region_law (refine step_append_rd rfl (.tmp 45) (.tmp 48) 44 rfl w.heap.size 3 i3 (.int .i64 0) 1 8 Try.underlying44 hi3 hz30 hz31 hz32 rfl (by omega) (.slice Av k cv) k (icells ((sp.map Par.df).take k)) rfl (HSV.out _ (by first | exact (Below.drew (Below.refl V.heap.size V)).alloc (Nat.le_refl _) _ | exact Below.drew ((Below.refl V.heap.size V).alloc (Nat.le_refl _) _))) (V.heap.size + 1) (some ⟨V.heap.size, 0, none⟩) 1 1 [.int .i64 p.df] rfl (by first | exact Rd.new V.drew _ _ _ rfl | exact (Rd.new V _ _ _ rfl).below (Below.drew (Below.refl _ _)) (by simp)) rfl (by simp [Value.oneCell']) (by unfold maxLen; omega) (by omega) (by have := HOV.out.below.size; simp; omega) ?_; intro v9 w9 hown9 hgrow9 _; obtain ⟨⟨A9, c9, rfl, hop9⟩, c49, z49⟩ := HGR.out _ _ _ (by first | exact (Below.drew (Below.refl V.heap.size V)).alloc (Nat.le_refl _) _ | exact Below.drew ((Below.refl V.heap.size V).alloc (Nat.le_refl _) _)) hgrow9 hown9)
      all_goals
        have HN9 := Lib.hid hop9
        clear hop9 hgrow9 hown9 c49 z49
        go_wp2
        go_roundw
        case rel => exact ⟨k + 1, by omega, by go_num, A9, c9, HN9.out⟩
        case measure => simp [intOf]; omega
    · have hkn : k = n := by omega
      subst hkn
      have hs0 : ({ initS fi bl sp with saved := (sp.map Par.df).take k } : St) = initS fi bl sp := by
        rw [List.take_of_length_le (by rw [List.length_map, HN.out]; exact Nat.le_refl _)]
        rfl
      rw [hs0] at HO
      obtain ⟨T, hT⟩ : ∃ T, f.pg / pgs k = T := ⟨_, rfl⟩
      have HT := Lib.hid hT
      have hT16 : T ≤ 16 := by rw [← hT]; exact Nat.le_trans (Nat.div_le_self _ _) H.out.ok.p2
      clear hs0 hT
      go_wp2
      go_loopw [54] (fun i wr => ∃ b : Nat, b ≤ bl ∧ i = .int .i64 b ∧ ∃ S, S.D = D ∧ OpAt w wr L S (openAll f T (initS fi bl sp) b)) (fun i _ => bl - (intOf i).toNat)
      case atStart => exact ⟨0, Nat.zero_le _, rfl, _, rfl, HO.out⟩
      case round =>
        obtain ⟨b, hb, rfl, S, hSD, hO1⟩ := hrel
        subst hSD
        have HO1 := Lib.hid hO1
        clear hO1
        by_cases hltb : b < bl
        · have HK1 := Lib.hid (openAll_kp f T (initS fi bl sp) b)
          obtain ⟨s1, hs1⟩ : ∃ s1, openAll f T (initS fi bl sp) b = s1 := ⟨_, rfl⟩
          have HS1 := Lib.hid hs1
          rw [hs1] at HO1 HK1
          have e0 := HO1.out.row 0 _ rfl
          have e3 := HO1.out.row 3 _ rfl
          have hsp : s1.spec.length = k := by rw [HK1.out.s]; exact HN.out
          rw [hsp] at e3
          have HSL := Lib.hid (slots_h (H.out.later HO1.out.below) e0 e3 n1 n48)
          rw [HT.out] at HSL
          clear hs1 e0 e3 hsp
          go_wp2_with (fail)
          (with_reducible refine HSL.out.mono ?_)
          rintro e w4 ⟨rfl, q4, rfl⟩
          have HO4 := Lib.hid (HO1.out.later (Below.drewN (Below.refl _ _) q4))
          generalize wr.drewN q4 = w4 at *
          go_wp2
          go_loopw [59] (fun i wx => ∃ j : Nat, j ≤ T ∧ i = .int .i64 j ∧ ∃ S2 : Sc, S2.D = S.D ∧ OpAt w wx L S2 (openRow f b s1 j)) (fun i _ => T - (intOf i).toNat)
          case atStart => exact ⟨0, Nat.zero_le _, rfl, S, rfl, HO4.out⟩
          case round =>
            obtain ⟨j, hj, rfl, S2, hSD2, hO2⟩ := hrel
            have hSD2' := hSD2
            have HO2 := Lib.hid hO2
            have HSD2 := Lib.hid hSD2
            clear hO2 hSD2
            by_cases hltj : j < T
            · obtain ⟨s2, hs2⟩ : ∃ s2, openRow f b s1 j = s2 := ⟨_, rfl⟩
              have HK2 : Hid (Kp (initS fi bl sp) s2) := by rw [← hs2]; exact HK1.out.trans (openRow_kp _ _ _ _)
              have HSUC : Hid (openRow f b s1 (j + 1) = openStep f s2 b j) := by rw [Hid, openRow_succ, hs2]
              rw [hs2] at HO2
              have e0 := HO2.out.row 0 _ rfl
              have e1 := HO2.out.row 1 _ rfl
              have e3 := HO2.out.row 3 _ rfl
              have e6 := HO2.out.row 6 _ rfl
              have hsp : s2.spec = sp := HK2.out.s
              have hfi : s2.first = fi := HK2.out.f
              rw [hsp, HN.out] at e3
              rw [hfi] at e1
              have hpb : (fi + b) * f.pg + f.pg ≤ f.wear.length * f.pg := by
                have h1 : (fi + b + 1) * f.pg ≤ f.wear.length * f.pg := Nat.mul_le_mul_right _ (by have := HFW.out; omega)
                rw [Nat.add_mul (fi + b), Nat.one_mul] at h1
                exact h1
              have hjk : j * pgs k + pgs k ≤ f.pg := by
                have h1 : (j + 1) * pgs k ≤ T * pgs k := Nat.mul_le_mul_right _ hltj
                have h2 : T * pgs k ≤ f.pg := by rw [← HT.out]; exact Nat.div_mul_le_self _ _
                rw [Nat.add_mul, Nat.one_mul] at h1
                omega
              obtain ⟨a, ha⟩ : ∃ a, (fi + b) * f.pg + j * pgs k = a := ⟨_, rfl⟩
              have hfl := H.out.later HO2.out.below
              have HRD := Lib.hid (sread_any hfl HD.out e0 e1 e3 n1 n48 (by have := HFW.out; omega) b j (by omega) (by omega) a ha (by omega) (fun _ => False) (fun _ h => h.elim))
              have HPS : Hid (pageS s2 f b j = a ∧ s2.k = pgs k) := by
                have hk : s2.k = pgs k := by unfold St.k; rw [hsp, HN.out]
                refine ⟨?_, hk⟩
                unfold pageS
                rw [hk, hfi, ha]
              rw [hSD2'] at HRD
              clear hs2 e0 e1 e3 e6 hpb hjk hfl ha hsp hfi
              go_wp2_with (fail)
              (with_reducible refine HRD.out.mono ?_)
              rintro e w5 ⟨A5, c5, rfl, h51, h52, hr5, hb5⟩
              have HO5 := Lib.hid (HO2.out.later hb5)
              have hk8 := pgs_le n48
              have HDC := Lib.hid (decode_any A5 (pgs k) c5 (pagesF f a (pgs k)) w5 hr5 (pagesF_len _ _ _) h51 h52 (pagesF_bytes H.out.ok))
              obtain ⟨d, hd⟩ : ∃ d, decP (pagesF f a (pgs k)) = d := ⟨_, rfl⟩
              have hd2 : decP (pagesF f (pageS s2 f b j) s2.k) = d := by rw [HPS.out.1, HPS.out.2]; exact hd
              have HNOP := Lib.hid (openStep_no hd2)
              have HYES := Lib.hid (openStep_yes hd2)
              have HVR : Hid (∀ x ∈ d.2.1, I64 x) := by rw [← hd]; exact decP_vals _
              rw [hd] at HDC
              obtain ⟨dq, dv, de⟩ := d
              unfold DecR at HDC
              simp only at HDC HNOP HYES HVR
              generalize pgs k = K at *
              clear hd hd2 hr5 hb5 h51 h52
              have hsp6 : s2.spec = sp := HK2.out.s
              by_cases hde : de = 0
              · subst hde
                rw [errV_zero] at HDC
                go_wp2_with (fail)
                (with_reducible refine HDC.out.mono ?_)
                rintro e w6 ⟨A6, c6, rfl, ho6, hb6⟩
                have HO6 := Lib.hid (HO5.out.later hb6)
                have HV6 := Lib.hid ho6
                obtain ⟨_, _, hcv, hv1, hv2, hv3⟩ := own_read ho6
                injection hcv with hcv1 _ hcv3
                subst hcv1
                subst hcv3
                have HRV := Lib.hid hv3
                unfold maxLen at hv2
                have e6 := HO6.out.row 6 _ rfl
                rw [hSD2'] at e6
                clear ho6 hb6
                obtain ⟨m, hm⟩ : ∃ m, dv.length = m := ⟨_, rfl⟩
                have HM := Lib.hid hm
                rw [hm] at HV6 hv1 ⊢
                by_cases hlen : m = k
                · have dl : ((m : Int) != (k : Int)) = false := by simp; omega
                  by_cases hq : dq ≤ s2.seq
                  · have dqq : decide (dq ≤ s2.seq) = true := by simpa using hq
                    have HNO := Lib.hid (HNOP.out (.inr (.inr hq)))
                    clear hm hlen hq hsp6
                    go_wp2
                    go_roundw
                    case rel => exact ⟨j + 1, by omega, by go_num, S2, HSD2.out, by rw [HSUC.out, HNO.out]; exact HO6.out⟩
                    case measure => simp [intOf]; omega
                  · have dqq : decide (dq ≤ s2.seq) = false := by simpa using hq
                    have HYE := Lib.hid (HYES.out (by
                      rintro (h | h | h)
                      · exact h rfl
                      · rw [hm, hsp6, HN.out] at h; exact h hlen
                      · exact hq h))
                    have e7 := HO6.out.row 7 _ rfl
                    have e8 := HO6.out.row 8 _ rfl
                    have z6 := HO6.out.fz 6
                    have z7 := HO6.out.fz 7
                    have z8 := HO6.out.fz 8
                    obtain ⟨W7, hW7⟩ : ∃ W7, ((w6.setCell ⟨S2.D, 6, none⟩ (.int .i64 dq)).setCell ⟨S2.D, 7, none⟩ (.int .i64 b)).setCell ⟨S2.D, 8, none⟩ (.int .i64 j) = W7 := ⟨_, rfl⟩
                    have HQ7 : Hid (OpAt w W7 L S2 { s2 with seq := dq, block := b, slot := j } ∧ w6.grownBy W7 (some S2.D)) := by
                      have := HO6.out.qbs dq b (j : Int)
                      rw [hW7] at this
                      exact this
                    have hv7 : W7.ownsRow w5.heap.size 3 1 (.slice A6 m c6) m (icells dv) := kept_of HV6.out HQ7.out.2 (fun g hg e => own_ne_own HO6.out.own HV6.out (by decide) g (by
                      have : some S2.D = some g := e
                      exact this) hg)
                    have f3 := HQ7.out.1.row 3 _ rfl
                    rw [show ({ s2 with seq := dq, block := b, slot := (j : Int) } : St).spec = s2.spec from rfl, hsp6, HN.out] at f3
                    have hspw := HQ7.out.1.sp
                    rw [show ({ s2 with seq := dq, block := b, slot := (j : Int) } : St).spec = s2.spec from rfl, hsp6, HN.out] at hspw
                    obtain ⟨_, _, hcs, hs21, hs22, hs23⟩ := own_read hspw
                    injection hcs with hcs1 _ hcs3
                    subst hcs1
                    subst hcs3
                    subst hlen
                    have HLG := Lib.hid (legal_any f3 sp hs23 HN.out n1 n48 hs21 hs22 A6 c6 dv (own_rd hv7) HM.out)
                    rw [hSD2'] at HLG hW7
                    rw [hSD2'] at e7 e8 z6 z7 z8
                    clear hv7 f3 hspw hs21 hs22 hs23 hm hq
                    go_wp2_with (fail)
                    (with_reducible refine HLG.out.mono ?_)
                    rintro e w8 ⟨v8, rfl, ho8, hb8⟩
                    have HO8 := Lib.hid (HQ7.out.1.later hb8)
                    obtain ⟨A8, c8, rfl, _⟩ := own_form ho8
                    have hv8 : w8.ownsRow w.heap.size 3 1 (.slice A8 m c8) m (icells (legal sp dv)) := own_low ho8 HQ7.out.1.below.size
                    have hll : (legal sp dv).length = m := by rw [legal_length (by rw [HM.out, HN.out])]; exact HN.out
                    have HO9 : Hid (OpAt w (w8.setCell ⟨S2.D, 4, none⟩ (.slice A8 m c8)) L { S2 with Av := A8, cv := c8 } { s2 with seq := dq, block := b, slot := j, saved := legal sp dv }) := by
                      refine HO8.out.cell 4 (.slice A8 m c8) { S2 with Av := A8, cv := c8 } { s2 with seq := dq, block := b, slot := j, saved := legal sp dv } rfl ?_ ⟨rfl, rfl, rfl⟩ (by simp only [hll]; exact hv8) HO8.out.p0 HO8.out.v0 HO8.out.t0
                      unfold opCells Sc.cells
                      simp only [hll]
                      rfl
                    have f4 := HO8.out.row 4 _ rfl
                    have zz4 := HO8.out.fz 4
                    rw [hSD2'] at f4 zz4
                    have HYE2 : Hid (openRow f b s1 (j + 1) = { s2 with seq := dq, block := b, slot := j, saved := legal sp dv }) := by
                      rw [Hid, HSUC.out, HYE.out]
                      simp only [hsp6]
                    rw [hSD2'] at HO9
                    clear ho8 hb8 hv8 hll hsp6
                    go_wp2
                    go_roundw
                    case rel => exact ⟨j + 1, by omega, by go_num, { S2 with D := S.D, Av := A8, cv := c8 }, rfl, by rw [HYE2.out]; exact HO9.out⟩
                    case measure => simp [intOf]; omega
                · have dl : ((m : Int) != (k : Int)) = true := by simp; omega
                  have HNO := Lib.hid (HNOP.out (.inr (.inl (by rw [hm, hsp6, HN.out]; exact hlen))))
                  clear hm hlen hsp6
                  go_wp2
                  go_roundw
                  case rel => exact ⟨j + 1, by omega, by go_num, S2, HSD2.out, by rw [HSUC.out, HNO.out]; exact HO6.out⟩
                  case measure => simp [intOf]; omega
              · have HEE := Lib.hid (errV_ne hde)
                rw [HEE.out] at HDC
                have HNO := Lib.hid (HNOP.out (.inl hde))
                clear hde hsp6
                go_wp2_with (fail)
                (with_reducible refine HDC.out.mono ?_)
                rintro e w6 ⟨A6, c6, rfl, ho6, hb6⟩
                have HO6 := Lib.hid (HO5.out.later hb6)
                clear ho6 hb6
                go_wp2
                go_roundw
                case rel => exact ⟨j + 1, by omega, by go_num, S2, HSD2.out, by rw [HSUC.out, HNO.out]; exact HO6.out⟩
                case measure => simp [intOf]; omega
            · have hjT : j = T := by omega
              subst hjT
              have HNX : Hid (openAll f j (initS fi bl sp) (b + 1) = openRow f b s1 j) := by rw [Hid, openAll_succ, HS1.out]
              go_wp2
              go_roundw
              case rel => exact ⟨b + 1, by omega, by go_num, S2, HSD2.out, by rw [HNX.out]; exact HO2.out⟩
              case measure => simp [intOf]; omega
        · have hbb : b = bl := by omega
          subst hbb
          have HK1 := Lib.hid (openAll_kp f T (initS fi b sp) b)
          have HF : Hid (openF f fi b sp = { openAll f T (initS fi b sp) b with staged := (openAll f T (initS fi b sp) b).saved }) := by
            unfold openF
            rw [Hid, HN.out, HT.out]
          obtain ⟨s1, hs1⟩ : ∃ s1, openAll f T (initS fi b sp) b = s1 := ⟨_, rfl⟩
          rw [hs1] at HO1 HK1 HF
          have hsl : s1.saved.length = k := by
            rw [HK1.out.l (initS_len _ _ _)]
            exact HN.out
          have HSLN := Lib.hid hsl
          have hsv := HO1.out.sv
          have e4 := HO1.out.row 4 _ rfl
          rw [hsl] at hsv e4
          have HCL2 := Lib.hid (clone3_any S.Av k S.cv wr.heap.size s1.saved wr (own_rd hsv) (Nat.le_refl _) hsl (by omega))
          clear hs1 hsl hsv
          go_wp2_with (fail)
          (with_reducible refine HCL2.out.mono ?_)
          rintro e w9 ⟨v9, rfl, ho9, hb9⟩
          obtain ⟨A9, c9, rfl, _, _, hg9⟩ := own_form ho9
          obtain ⟨g9, rfl, hg91, hg92⟩ := hg9 (by omega)
          have HDN := Lib.hid (HO1.out.done H.out HSLN.out ho9 hb9)
          have HO9 := Lib.hid (HO1.out.later hb9)
          have f5 := HO9.out.row 5 _ rfl
          have z5 := HO9.out.fz 5
          have hDl := HO1.out.lt.1
          have hbs := HO1.out.below.size
          clear ho9 hb9 e4
          go_wp2
          go_ret2
          exact ⟨{ S with G := g9, cg := c9 }, rfl, by rw [HF.out]; exact HDN.out.1, HDN.out.2, hDl, by simp only; omega⟩
end
end Go.Proofs.Ytfeceamhlphelaa
