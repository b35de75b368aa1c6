/-
  WholeBus, walked.
-/
import Derived.Test.YtjdknddnanopaaaBW37
import Derived.Test.YtjdknddnanopaaaBW30
import Derived.Test.YtjdknddnanopaaaBW27
import Derived.Test.YtjdknddnanopaaaBPlainBus
import Derived.Test.YtjdknddnanopaaaKept
import Derived.Test.YtjdknddnanopaaaBFrameB
import Derived.Deep.DeepCutAuto
namespace Go.Proofs.Ytjdknddnanopaaa.Bus
open Go.RowKit Go.WideShapes
set_option linter.unusedVariables false

/-- An object that is found has a small key. -/
theorem bus_key {l : List Ob} {m : List It} {chk : Nat → Ob → Int} (h : (findM l chk m).2 = 0) {x : It} (hx : x ∈ m) : (Lit.int .i64 x.i).wf = true ∧ (Lit.int .i64 x.s).wf = true := by
  obtain ⟨f, e⟩ : ∃ f, (findM l chk m).1 = f := ⟨_, rfl⟩
  have hf : findM l chk m = (f, 0) := Prod.ext e h
  obtain ⟨c1, _⟩ := findM_ok hf
  obtain ⟨_, b, _⟩ := bus_found hf
  obtain ⟨p, y, hp, hy⟩ := b x hx
  obtain ⟨z, hz, e1, e2⟩ := locO_some hp
  have hfar := ((fine_of c1).each z (List.mem_of_getElem? hz)).1
  unfold Ob.far at hfar
  exact ⟨wf_small (by omega) (by omega), wf_small (by omega) (by omega)⟩

section
variable {w0 wr w' : World} {d : Nat} {v : Value} {bp bk : Nat} {l : List Ob}
theorem Dic.kept (h : Dic w0 wr d v bp bk l) (hg : wr.grownBy w' none) : Dic w0 w' d v bp bk l := by
  obtain ⟨k, k', h, h8⟩ := h
  exact ⟨k, k', h.kept hg, h8⟩
theorem Dic.alloc (h : Dic w0 wr d v bp bk l) (o : Obj) : Dic w0 (wr.alloc o) d v bp bk l := h.kept (World.grownBy_alloc wr o none)
theorem Dic.drewN (h : Dic w0 wr d v bp bk l) (n : Nat) : Dic w0 (wr.drewN n) d v bp bk l := h.kept ⟨rfl, rfl, rfl, Nat.le_refl _, fun _ _ _ => rfl⟩
theorem Dic.later (h : Dic w0 wr d v bp bk l) (hb : Below wr.heap.size wr w') : Dic w0 w' d v bp bk l := h.kept (grown_of_below hb)
theorem Dic.below (h : Dic w0 wr d v bp bk l) : Below w0.heap.size w0 wr := by
  obtain ⟨k, k', h, h8⟩ := h
  exact h.below
theorem Dic.drew (h : Dic w0 wr d v bp bk l) : Dic w0 wr.drew d v bp bk l := h.kept ⟨rfl, rfl, rfl, Nat.le_refl _, fun _ _ _ => rfl⟩
end

set_option maxRecDepth 100000 in
theorem bus_long (A A' : Option Addr) (n c n' c' : Nat) (bit : Int) (w : World) (hn : n ≤ maxLen) (hn' : n' ≤ maxLen) (h : 40 < n ∨ 20 < n') :
    Calls Try.prog 8 #[.slice A n c, .slice A' n' c', .int .u16 bit] w fun e w' => e = .returned (.bool true) ∧ Below w.heap.size w w' := by
  unfold maxLen at hn hn'
  by_cases h1 : 40 < n
  · clear h
    go_enter Try.func8, Try.ntmps8
    go_wp2_with (fail)
    (with_reducible refine (kept_any _).mono ?_)
    rintro e w1 ⟨rfl, hb⟩
    have HB1 := Lib.hid hb
    clear hb
    go_wp2_with (fail)
    (with_reducible refine (kept_any _).mono ?_)
    rintro e w2 ⟨rfl, hb⟩
    have HB2 : Hid (Below w.heap.size w w2) := HB1.out.trans (hb.mono HB1.out.size)
    clear hb
    go_wp2
    go_ret
    exact ⟨rfl, HB2.out⟩
  · have h2 : 20 < n' := by omega
    clear h
    go_enter Try.func8, Try.ntmps8
    go_wp2_with (fail)
    (with_reducible refine (kept_any _).mono ?_)
    rintro e w1 ⟨rfl, hb⟩
    have HB1 := Lib.hid hb
    clear hb
    go_wp2_with (fail)
    (with_reducible refine (kept_any _).mono ?_)
    rintro e w2 ⟨rfl, hb⟩
    have HB2 : Hid (Below w.heap.size w w2) := HB1.out.trans (hb.mono HB1.out.size)
    clear hb
    go_wp2
    go_ret
    exact ⟨rfl, HB2.out⟩

set_option maxRecDepth 100000 in
theorem bus_bad (A A' : Option Addr) (n c n' c' : Nat) (l : List Ob) (m : List It) (bit : Int) (w : World) (hA : Rd w w.heap.size A (ocells l)) (hn : l.length = n) (hc : n ≤ c) (hcc : c ≤ maxLen)
    (hA' : Rd w w.heap.size A' (mcells m)) (hn' : m.length = n') (hc' : n' ≤ c') (hcc' : c' ≤ maxLen) (k1 : n ≤ 40) (k2 : n' ≤ 20) (h : checkO l ≠ 0 ∨ (checkO l = 0 ∧ (findM l (chkO m true) m).2 ≠ 0)) :
    Calls Try.prog 8 #[.slice A n c, .slice A' n' c', .int .u16 bit] w fun e w' => e = .returned (.bool true) ∧ Below w.heap.size w w' := by
  have HA := Lib.hid hA
  have HN := Lib.hid hn
  have HA' := Lib.hid hA'
  have HN' := Lib.hid hn'
  clear hA hn hA' hn'
  rcases h with h | ⟨h, h'⟩
  · have HK : Hid ((checkO l != 0) = true) := by simpa [Hid] using h
    clear h
    go_enter Try.func8, Try.ntmps8
    go_wp2_with (fail)
    (with_reducible refine (kept_any _).mono ?_)
    rintro e w1 ⟨rfl, hb⟩
    have HB1 := Lib.hid hb
    clear hb
    go_wp2_with (fail)
    (with_reducible refine (refCheck_any A n c l w1 ((HA.out.below HB1.out (Nat.le_refl _)).more HB1.out.size) HN.out hc hcc).mono ?_)
    rintro e w2 ⟨rfl, hb⟩
    have HB2 : Hid (Below w.heap.size w w2) := HB1.out.trans (hb.mono HB1.out.size)
    have hk := HK.out
    generalize checkO l = k at *
    clear hb HK
    go_wp2_with (fail)
    (with_reducible refine (kept_any _).mono ?_)
    rintro e w3 ⟨rfl, hb⟩
    have HB3 : Hid (Below w.heap.size w w3) := HB2.out.trans (hb.mono HB2.out.size)
    clear hb
    go_wp2
    go_ret
    exact ⟨rfl, HB3.out⟩
  · have HK : Hid (((findM l (chkO m true) m).2 != 0) = true) := by simpa [Hid] using h'
    have H0 := Lib.hid h
    clear h h'
    go_enter Try.func8, Try.ntmps8
    go_wp2_with (fail)
    (with_reducible refine (kept_any _).mono ?_)
    rintro e w1 ⟨rfl, hb⟩
    have HB1 := Lib.hid hb
    clear hb
    go_wp2_with (fail)
    (with_reducible refine (refCheck_any A n c l w1 ((HA.out.below HB1.out (Nat.le_refl _)).more HB1.out.size) HN.out hc hcc).mono ?_)
    rintro e w2 ⟨rfl, hb⟩
    rw [H0.out]
    have HB2 : Hid (Below w.heap.size w w2) := HB1.out.trans (hb.mono HB1.out.size)
    clear hb
    go_wp2_with (fail)
    (with_reducible refine (refCheck54_any A A' n c n' c' l m true w2 ((HA.out.below HB2.out (Nat.le_refl _)).more HB2.out.size) HN.out hc hcc ((HA'.out.below HB2.out (Nat.le_refl _)).more HB2.out.size) HN'.out hc' hcc').mono ?_)
    rintro e w2' ⟨rfl, hb⟩
    have HB2' : Hid (Below w.heap.size w w2') := HB2.out.trans (hb.mono HB2.out.size)
    have hk := HK.out
    generalize (findM l (chkO m true) m).2 = k at *
    clear hb HK
    go_wp2_with (fail)
    (with_reducible refine (kept_any _).mono ?_)
    rintro e w3 ⟨rfl, hb⟩
    have HB3 : Hid (Below w.heap.size w w3) := HB2'.out.trans (hb.mono HB2'.out.size)
    clear hb
    go_wp2
    go_ret
    exact ⟨rfl, HB3.out⟩

set_option maxRecDepth 100000 in
set_option maxHeartbeats 4000000 in
theorem bus_main (A A' : Option Addr) (n c n' c' : Nat) (l : List Ob) (m : List It) (bit : Nat) (w : World) (hA : Rd w w.heap.size A (ocells l)) (hn : l.length = n) (hc : n ≤ c) (hcc : c ≤ maxLen)
    (hA' : Rd w w.heap.size A' (mcells m)) (hn' : m.length = n') (hc' : n' ≤ c') (hcc' : c' ≤ maxLen) (k1 : n ≤ 40) (k2 : n' ≤ 20) (hbit : bit < 65536) (h : checkO l = 0) (h' : (findM l (chkO m true) m).2 = 0) :
    Calls Try.prog 8 #[.slice A n c, .slice A' n' c', .int .u16 bit] w fun e w' => e = .returned (.bool true) ∧ Below w.heap.size w w' := by
  have HA := Lib.hid hA
  have HN := Lib.hid hn
  have HA' := Lib.hid hA'
  have HN' := Lib.hid hn'
  have HF := Lib.hid (fine_of h)
  have H0 := Lib.hid h
  have HK := Lib.hid h'
  have HCC := Lib.hid hcc
  have HCC' := Lib.hid hcc'
  obtain ⟨vs, hvs⟩ : ∃ vs, m.map (valO l) = vs := ⟨_, rfl⟩
  obtain ⟨b, hpk, hb32, hbb⟩ := bus_pack h'
  rw [hvs] at hpk
  have HPK := Lib.hid hpk
  have HUN := Lib.hid (pack_back hpk).1
  have HBB := Lib.hid hbb
  have HVL : Hid (vs.length = n') := by rw [Hid, ← hvs, List.length_map, hn']
  have HVS := Lib.hid hvs
  have HBB2 : Hid (∀ x ∈ b, 0 ≤ x ∧ x < 256) := hbb
  obtain ⟨bl, hbl⟩ : ∃ bl, b.length = bl := ⟨_, rfl⟩
  have HBL := Lib.hid hbl
  rw [hbl] at hb32
  obtain ⟨i3, hi3, hz30, hz31, hz32⟩ := info_parts info3
  have g1 := ne_nil
  have g2 := ne_err
  have q1 : (bit : Int) % 256 = ((bit % 256 : Nat) : Int) := by omega
  obtain ⟨sq, hsq⟩ : ∃ sq, bit % 256 = sq := ⟨_, rfl⟩
  have hs256 : sq < 256 := by omega
  rw [hsq] at q1
  have q2 : (bit : Int).tmod 256 = (sq : Int) := by rw [Int.tmod_eq_emod_of_nonneg (by omega)]; exact q1
  have HENC : Hid (∃ x, encO (sq : Int) b = (x, 0)) := by
    unfold encO
    rw [Hid, if_neg (by omega), if_neg (by rw [hbl]; omega)]
    exact ⟨_, rfl⟩
  clear hA hn hA' hn' hpk hbb hvs h h' hbl hcc hcc' hsq
  go_enter Try.func8, Try.ntmps8
  go_wp2_with (fail)
  (with_reducible refine (kept_any _).mono ?_)
  rintro e w1 ⟨rfl, hb⟩
  have HB1 := Lib.hid hb
  clear hb
  go_wp2_with (fail)
  (with_reducible refine (refCheck_any A n c l w1 ((HA.out.below HB1.out (Nat.le_refl _)).more HB1.out.size) HN.out hc HCC.out).mono ?_)
  rintro e w2 ⟨rfl, hb⟩
  rw [H0.out]
  have HB2 : Hid (Below w.heap.size w w2) := HB1.out.trans (hb.mono HB1.out.size)
  clear hb
  go_wp2_with (fail)
  (with_reducible refine (refCheck54_any A A' n c n' c' l m true w2 ((HA.out.below HB2.out (Nat.le_refl _)).more HB2.out.size) HN.out hc HCC.out ((HA'.out.below HB2.out (Nat.le_refl _)).more HB2.out.size) HN'.out hc' HCC'.out).mono ?_)
  rintro e w3 ⟨rfl, hb⟩
  rw [HK.out]
  have HB3 : Hid (Below w.heap.size w w3) := HB2.out.trans (hb.mono HB2.out.size)
  clear hb
  go_wp2_with (fail)
  (with_reducible refine (New_ok A n c l _ ((HA.out.below HB3.out (Nat.le_refl _)).more HB3.out.size) HN.out hc HCC.out H0.out).mono ?_)
  rintro e w4 ⟨d, v, bp, bk, rfl, hD⟩
  have HD : Hid (Dic w3 w4 d v bp bk l) := Dic.of hD HF.out HN.out
  have HB4 : Hid (Below w.heap.size w w4) := HB3.out.trans (HD.out.below.mono HB3.out.size)
  clear hD
  go_wp2
  go_loopw [9, 61] (fun o i wr => ∃ k : Nat, k ≤ n' ∧ i = .int .i64 k ∧ wr.ownsRow w4.heap.size 3 1 o k (icells (vs.take k)) ∧ Below w4.heap.size w4 wr) (fun _ i _ => n' - (intOf i).toNat)
  case atStart => exact ⟨0, Nat.zero_le _, rfl, World.ownsRow_nil .., Below.refl _ _⟩
  case round =>
    obtain ⟨k, hk, rfl, hO, hBr⟩ := hrel
    have HO := Lib.hid hO
    have HBr := Lib.hid hBr
    have hsr := hBr.size
    have HBw : Hid (Below w.heap.size w wr) := HB4.out.trans (hBr.mono HB4.out.size)
    clear hO hBr
    by_cases hlt : k < n'
    · obtain ⟨x, hx⟩ := getElem?_of_lt (l := m) (k := k) (by rw [HN'.out]; exact hlt)
      obtain ⟨bb, off, rfl, hbl, c0, c1⟩ := (HA'.out.below HBw.out (Nat.le_refl _)).it hx
      obtain ⟨w5, w6⟩ := bus_key HK.out (List.mem_of_getElem? hx)
      have HG := Lib.hid (bus_get HK.out (List.mem_of_getElem? hx)).1
      have HW5 := Lib.hid w5
      have HW6 := Lib.hid w6
      have hv : vs[k]? = some (valO l x) := by rw [← HVS.out, List.getElem?_map, hx]; rfl
      have HT := Lib.hid (take_snoc_get vs k _ hv)
      generalize valO l x = y at *
      clear hx w5 w6 hv
      go_wp2_with (fail)
      obtain ⟨V, hV⟩ : ∃ V, wr.alloc (.cells #[.int .i64 x.i, .int .i64 x.s] 97) = V := ⟨_, rfl⟩
      have HBV : Hid (Below w4.heap.size w4 V) := by rw [← hV]; exact HBr.out.alloc hsr _
      have HOV : Hid (V.ownsRow w4.heap.size 3 1 u9 k (icells (vs.take k))) := by rw [← hV]; exact HO.out.alloc _
      have hsV := HBV.out.size
      rw [hV]
      (with_reducible refine (Get_any (HD.out.later HBV.out) x.i x.s HW5.out HW6.out).mono ?_)
      rintro e w7 ⟨rfl, rfl⟩
      rw [HG.out]
      simp only [errV_zero]
      clear hV c0 c1
      go_wp2_with (at_builtin; refine wpList_append_own _ rfl _ _ 35 rfl w4.heap.size 3 i3 (.int .i64 0) 1 8 Try.underlying35 hi3 hz30 hz31 hz32 rfl (by omega) _ _ _ rfl (HOV.out.alloc _) ⟨V.heap.size, 0, none⟩ 1 1 [.int .i64 y] rfl rfl (cell_one_new _ _ _) (by simp [Value.oneCell']) (by unfold maxLen; omega) (by omega) (by simp; omega) ?_)
      intro v' w8 hown hgrow _
      have HO8 : Hid (w8.ownsRow w4.heap.size 3 1 v' (k + 1) (icells (vs.take (k + 1)))) := by
        rw [HT.out, icells_append]
        exact hown
      have HB8 : Hid (Below w4.heap.size w4 w8) := (HBV.out.alloc hsV _).grown hgrow (by simp; omega) (fun k hk => (HOV.out.lt k hk).1)
      clear hown hgrow
      go_wp2
      go_roundw
      case rel => exact ⟨k + 1, by omega, by go_num, HO8.out, HB8.out⟩
      case measure => simp [intOf]; omega
    · have hkn : k = n' := by omega
      subst hkn
      have t1 : vs.take k = vs := List.take_of_length_le (by rw [HVL.out]; omega)
      have ho2 := HO.out
      rw [t1] at ho2
      obtain ⟨Ao, co, rfl, ho3, ho4, hro⟩ := own_read ho2
      have HRO := Lib.hid hro
      have hsw := HBw.out.size
      clear t1 ho2 hro HO hlt
      go_wp2_with (fail)
      (with_reducible refine (Pack_any A A' Ao n c k c' k co l m vs wr ((HA.out.below HBw.out (Nat.le_refl _)).more hsw) HN.out hc HCC.out ((HA'.out.below HBw.out (Nat.le_refl _)).more hsw) HN'.out hc' HCC'.out HRO.out HVL.out ho3 ho4).mono ?_)
      rintro e w5 ⟨A5, c5, rfl, hc51, hc52, hr5, hb⟩
      rw [HPK.out] at hc51 hr5 ⊢
      simp only [errV_zero] at hc51 hr5 ⊢
      rw [HBL.out] at hc51 ⊢
      have HR5 := Lib.hid hr5
      have HRO5 := Lib.hid ((HRO.out.below hb (Nat.le_refl _)).more hb.size)
      have HB5 : Hid (Below w.heap.size w w5) := HBw.out.trans (hb.mono hsw)
      have hs5 := HB5.out.size
      clear hr5 hb HRO
      go_wp2_with (fail)
      (with_reducible refine (Encode_any (sq : Int) A5 bl c5 b w5 HR5.out HBL.out hc51 hc52 HBB.out).mono ?_)
      rintro e w6 ⟨A6, c6, rfl, hc61, hc62, hr6, hb⟩
      obtain ⟨x, hx⟩ := HENC.out
      rw [hx] at hc61 hr6 ⊢
      simp only [errV_zero] at hc61 hr6 ⊢
      have HX := Lib.hid hx
      have HXB := Lib.hid (enc_bytes HBB.out hx)
      have hX3 := enc_len hx
      rw [HBL.out] at hX3
      have HXD := Lib.hid (enc_dec hx)
      obtain ⟨X, hX⟩ : ∃ X, x.length = X := ⟨_, rfl⟩
      rw [hX] at hc61 hX3 ⊢
      have HXL := Lib.hid hX
      have HR6 := Lib.hid hr6
      have HRO6 := Lib.hid ((HRO5.out.below hb (Nat.le_refl _)).more hb.size)
      have HB6 : Hid (Below w.heap.size w w6) := HB5.out.trans (hb.mono hs5)
      have hs6 := HB6.out.size
      have e3 : ((X : Int) != (bl : Int) + 3) = false := by simp; omega
      have hXa : 3 ≤ X := by omega
      have hXb : X ≤ 35 := by omega
      clear hr6 hb HRO5 hx hX hX3
      go_wp2_with (fail)
      (with_reducible refine (Decode_any A6 X c6 x w6 HR6.out HXL.out hc61 hc62 HXB.out).mono ?_)
      rintro e w7 ⟨A7, c7, rfl, hc71, hc72, hr7, hb⟩
      rw [HXD.out] at hc71 hr7 ⊢
      simp only [errV_zero] at hc71 hr7 ⊢
      rw [HBL.out] at hc71 ⊢
      have HR7 := Lib.hid hr7
      have HR67 := Lib.hid ((HR6.out.below hb (Nat.le_refl _)).more hb.size)
      have HRO7 := Lib.hid ((HRO6.out.below hb (Nat.le_refl _)).more hb.size)
      have HB7 : Hid (Below w.heap.size w w7) := HB6.out.trans (hb.mono hs6)
      have hs7 := HB7.out.size
      have ss : ((sq : Int) != (sq : Int)) = false := by simp
      clear hr7 hb HRO6 HR6
      go_wp2_with (fail)
      obtain ⟨V7, hV7⟩ : ∃ V, w7.alloc (.cells #[.int .i64 sq, .slice A7 bl c7] 102) = V := ⟨_, rfl⟩
      have HBV7 : Hid (Below w7.heap.size w7 V7) := by rw [← hV7]; exact (Below.refl _ _).alloc (Nat.le_refl _) _
      have HBU7 : Hid (Below w.heap.size w V7) := HB7.out.trans (HBV7.out.mono hs7)
      rw [hV7]
      (with_reducible refine (Unpack_any A A' A7 n c k c' bl c7 l m b V7 ((HA.out.below HBU7.out (Nat.le_refl _)).more HBU7.out.size) HN.out hc HCC.out ((HA'.out.below HBU7.out (Nat.le_refl _)).more HBU7.out.size) HN'.out hc' HCC'.out ((HR7.out.below HBV7.out (Nat.le_refl _)).more HBV7.out.size) HBL.out hc71 hc72 HBB2.out).mono ?_)
      rintro e w8 ⟨A8, c8, rfl, hc81, hc82, hr8, hb⟩
      rw [HUN.out] at hc81 hr8 ⊢
      simp only [errV_zero] at hc81 hr8 ⊢
      rw [HVL.out] at hc81 ⊢
      have HR8 := Lib.hid hr8
      have HR68 := Lib.hid ((((HR67.out.below HBV7.out (Nat.le_refl _)).more HBV7.out.size).below hb (Nat.le_refl _)).more hb.size)
      have HRO8 := Lib.hid ((((HRO7.out.below HBV7.out (Nat.le_refl _)).more HBV7.out.size).below hb (Nat.le_refl _)).more hb.size)
      have HB8 : Hid (Below w.heap.size w w8) := HBU7.out.trans (hb.mono HBU7.out.size)
      have hkm : k ≤ maxLen := by unfold maxLen; omega
      clear hr8 hb HR67 HRO7 hV7
      go_wp2_with (fail)
      (with_reducible refine (ints_any A8 Ao k k c8 co vs vs w8 HR8.out HRO8.out HVL.out HVL.out hkm hkm).mono ?_)
      rintro e4' w9' ⟨rfl, q, rfl⟩
      rw [decide_eq_true (rfl : vs = vs)]
      have HB9 : Hid (Below w.heap.size w (w8.drewN q)) := Below.drewN HB8.out q
      have HR9 : Hid (Rd (w8.drewN q) (w8.drewN q).heap.size A8 (icells vs)) := HR8.out
      have HR69 : Hid (Rd (w8.drewN q) (w8.drewN q).heap.size A6 (kcells IntKind.u8 x)) := HR68.out
      generalize w8.drewN q = w9 at *
      clear HR8 HR68 HRO8 ho3 hkm
      go_wp2
      go_loopw [144] (fun i wr => ∃ j : Nat, j ≤ k ∧ i = .int .i64 j ∧ Below w9.heap.size w9 wr) (fun i _ => k - (intOf i).toNat)
      case atStart => exact ⟨0, Nat.zero_le _, rfl, Below.refl _ _⟩
      case round =>
        obtain ⟨j, hj, rfl, hBr⟩ := hrel
        have HBr := Lib.hid hBr
        have hsr := hBr.size
        have HBw : Hid (Below w.heap.size w wr) := HB9.out.trans (hBr.mono HB9.out.size)
        clear hBr
        by_cases hlt : j < k
        · obtain ⟨x2, hx⟩ := getElem?_of_lt (l := m) (k := j) (by rw [HN'.out]; exact hlt)
          obtain ⟨bb, off, rfl, hbl, c0, c1⟩ := (HA'.out.below HBw.out (Nat.le_refl _)).it hx
          obtain ⟨wi, ws⟩ := bus_key HK.out (List.mem_of_getElem? hx)
          have HSET := Lib.hid (bus_get HK.out (List.mem_of_getElem? hx)).2
          have hv : vs[j]? = some (valO l x2) := by rw [← HVS.out, List.getElem?_map, hx]; rfl
          generalize valO l x2 = y at *
          obtain ⟨b8, o8, rfl, hb8, e8⟩ := HR9.out.int hv
          clear hx hv
          go_wp2_with (fail)
          obtain ⟨V, hV⟩ : ∃ V, wr.alloc (.cells #[.int .i64 x2.i, .int .i64 x2.s] 97) = V := ⟨_, rfl⟩
          have HBV : Hid (Below w9.heap.size w9 V) := by rw [← hV]; exact HBr.out.alloc hsr _
          have HBVw : Hid (Below w.heap.size w V) := HB9.out.trans (HBV.out.mono HB9.out.size)
          have hsV : wr.heap.size < V.heap.size := by rw [← hV]; simp
          have z0 : V.cell? ⟨wr.heap.size, 0, none⟩ = some (.int .i64 x2.i) := by rw [← hV]; exact cell_new_at _ _ _ _ _ _ rfl rfl
          have z1 : V.cell? ⟨wr.heap.size, 1, none⟩ = some (.int .i64 x2.s) := by rw [← hV]; exact cell_new_at _ _ _ _ _ _ rfl rfl
          have z8 : V.cell? ⟨b8, o8 + j, none⟩ = some (.int .i64 y) := (HBV.out.cell (p := ⟨b8, o8 + j, none⟩) hb8).trans e8
          have hb8V : b8 < V.heap.size := Nat.lt_of_lt_of_le hb8 HBV.out.size
          rw [hV]
          clear hV c0 c1 e8
          (with_reducible refine (New_ok A n c l V ((HA.out.below HBVw.out (Nat.le_refl _)).more HBVw.out.size) HN.out hc HCC.out H0.out).mono ?_)
          rintro e w10 ⟨d2, v2, bp2, bk2, rfl, hD⟩
          have HD2 : Hid (Dic V w10 d2 v2 bp2 bk2 l) := Dic.of hD HF.out HN.out
          have HSC : Hid (∀ W, Dic V W d2 v2 bp2 bk2 l → Calls Try.prog 51 #[.pointer (some ⟨d2, 0, none⟩), .int .i64 x2.i, .int .i64 x2.s, .int .i64 y] W fun e w' => e = .returned .nilIface ∧ Below V.heap.size V w') := fun W hW =>
            (Set_any hW x2.i x2.s y wi ws).mono fun e w' ⟨h1, h2, _⟩ => ⟨by rw [h1, HSET.out]; rfl, h2.below⟩
          obtain ⟨B1, hB1⟩ : ∃ B, wr.heap.size = B := ⟨_, rfl⟩
          rw [hB1] at hsV z0 z1 ⊢
          have HKP : Hid (∀ W, Below V.heap.size V W → W.cell? ⟨B1, 0, none⟩ = some (.int .i64 x2.i) ∧ W.cell? ⟨B1, 1, none⟩ = some (.int .i64 x2.s) ∧ W.cell? ⟨b8, o8 + j, none⟩ = some (.int .i64 y)) := fun W hb =>
            ⟨(hb.cell (p := ⟨B1, 0, none⟩) hsV).trans z0, (hb.cell (p := ⟨B1, 1, none⟩) hsV).trans z1, (hb.cell (p := ⟨b8, o8 + j, none⟩) hb8V).trans z8⟩
          obtain ⟨y0, y1, y8⟩ := HKP.out w10 HD2.out.below
          clear hD z0 z1 z8 wi ws hB1
          go_wp2
          go_region_held3 (fun W => W.cell? ⟨B1, 0, none⟩ = some (.int .i64 x2.i) ∧ W.cell? ⟨B1, 1, none⟩ = some (.int .i64 x2.s) ∧ W.cell? ⟨b8, o8 + j, none⟩ = some (.int .i64 y)) (first | exact ⟨y0, y1, y8⟩ | exact HKP.out _ hb2) (first | (go_at_call 51; refine (HSC.out _ (by first | exact HD2.out | exact HD2.out.drew | exact HD2.out.drewN _)).mono ?_; rintro e w11 ⟨rfl, hb2⟩))
          have HB11 : Hid (Below w9.heap.size w9 w11) := HBV.out.trans (hb2.mono HBV.out.size)
          clear hb2 y0 y1 y8 HSC HKP HD2
          go_wp2
          go_roundw
          case rel => exact ⟨j + 1, by omega, by go_num, by first | exact HB11.out | exact HB11.out.drew | exact Below.drewN HB11.out _⟩
          case measure => simp [intOf]; omega
        · have hjk : j = k := by omega
          subst hjk
          have HR6r := Lib.hid ((HR69.out.below HBr.out (Nat.le_refl _)).more hsr)
          have hs2 := HBw.out.size
          have hm0 : 0 ≤ maxLen := Nat.zero_le _
          have HKL : Hid ((kcells .u8 x).length = X * 1) := by rw [Hid, kcells_length, HXL.out]; omega
          obtain ⟨i5, hi5, hz50, hz51, hz52⟩ := info_parts info5
          obtain ⟨b6, o6, rfl, hb6, _⟩ := HR6r.out (by
            intro h
            have := congrArg List.length h
            rw [kcells_length, HXL.out] at this
            simp at this
            omega)
          clear hlt HR69 HR9
          go_wp2_with (at_builtin; refine wpList_append_rd _ rfl _ _ 22 rfl wr.heap.size 5 i5 (.int .u8 0) 1 1 Try.underlying22 hi5 hz50 hz51 hz52 rfl (by omega) _ 0 [] rfl (World.ownsRow_lit wr #[] 0 (Nat.le_refl _) hm0 rfl) wr.heap.size _ X c6 (kcells .u8 x) rfl (HR6r.out.below ((Below.refl wr.heap.size wr).alloc (Nat.le_refl _) _) (Nat.le_refl _)) HKL.out (kcells_one _ _) ?c3 ?c4 (by simp) ?_)
          case c3 => unfold maxLen; omega
          case c4 => omega
          intro v' w12 hown hgrow hat
          have HB12 : Hid (Below wr.heap.size wr w12) := ((Below.refl wr.heap.size wr).alloc (Nat.le_refl _) _).grown hgrow (by simp) (fun k hk => by have hk' : some wr.heap.size = some k := hk; injection hk'; omega)
          try simp only [Nat.zero_add, List.nil_append] at hown
          obtain ⟨A12, c12, rfl, hc121, hc122, hpos⟩ := own_form hown
          obtain ⟨g, rfl, hg1, hg2⟩ := hpos (by omega)
          have HO12 := Lib.hid hown
          obtain ⟨P8, hP8⟩ : ∃ p, bit / 8 = p := ⟨_, rfl⟩
          have p1 : (bit : Int) / 8 = P8 := by omega
          have p2 : (bit : Int).tdiv 8 = P8 := by rw [Int.tdiv_eq_ediv_of_nonneg (by omega)]; exact p1
          obtain ⟨k8, h8⟩ : ∃ k8, P8 % X = k8 := ⟨_, rfl⟩
          have h8X : k8 < X := by rw [← h8]; exact Nat.mod_lt _ (by omega)
          have r1 : (P8 : Int) % (X : Int) = k8 := by rw [← h8]; push_cast; rfl
          have r2 : (P8 : Int).tmod (X : Int) = k8 := by rw [Int.tmod_eq_emod_of_nonneg (by omega)]; exact r1
          have r3 : ((X : Int) == 0) = false := by simp; omega
          obtain ⟨km, hm⟩ : ∃ km, bit % 8 = km := ⟨_, rfl⟩
          have hm8 : km < 8 := by omega
          have m1 : (bit : Int) % 8 = km := by omega
          have m2 : (bit : Int).tmod 8 = km := by rw [Int.tmod_eq_emod_of_nonneg (by omega)]; exact m1
          obtain ⟨u, hu⟩ := getElem?_of_lt (l := x) (k := k8) (by rw [HXL.out]; exact h8X)
          have f0 : w12.cell? ⟨g, k8, none⟩ = some (.int .u8 u) := by
            rw [HO12.out.cellAt k8 (by omega)]
            simp [kcells, hu]
          have f1 : w12.frozen? ⟨g, k8, none⟩ = false := HO12.out.frozenAt _
          have hub := HXB.out u (List.mem_of_getElem? hu)
          clear hown hgrow hat hP8 h8 hm hpos
          obtain ⟨z1, z2, z3⟩ := flip_ne u hub km hm8
          have e1 : (2 : Int) ^ km % 256 = 2 ^ km := by
            have hp : (2 : Int) ^ km = ((2 ^ km : Nat) : Int) := by push_cast; rfl
            have hp2 : 2 ^ km ≤ 2 ^ 7 := Nat.pow_le_pow_right (by omega) (by omega)
            have hp3 : ((2 ^ km : Nat) : Int) < 256 := by omega
            rw [hp]
            exact Int.emod_eq_of_lt (Int.natCast_nonneg _) hp3
          have HSP : Hid ((decO (x.set k8 (bits .xor .u8 u (2 ^ km)))).2 ≠ 0) := spoil HBB.out HX.out hu z1 ⟨z2, z3⟩
          go_upto_region 33 with (fail)
          go_upto_region 34 with (fail)
          obtain ⟨z, hz⟩ : ∃ z, bits .xor .u8 u (2 ^ km) = z := ⟨_, rfl⟩
          rw [hz] at z1 z2 z3 HSP ⊢
          have HO4 : Hid ((w12.setCell ⟨g, k8, none⟩ (.int .u8 z)).ownsRow wr.heap.size 5 1 (.slice (some ⟨g, 0, none⟩) X c12) X (kcells .u8 (x.set k8 z))) := own_set_k HO12.out k8 z
          have HB4' : Hid (Below wr.heap.size wr (w12.setCell ⟨g, k8, none⟩ (.int .u8 z))) := HB12.out.setCell (p := ⟨g, k8, none⟩) hg1 _
          generalize (w12.setCell ⟨g, k8, none⟩ (.int .u8 z)) = w13 at *
          have HR13 := Lib.hid (own_rd HO4.out)
          have HXS : Hid ((x.set k8 z).length = X) := by rw [Hid, List.length_set, HXL.out]
          have HBS : Hid (Bytes (x.set k8 z)) := by
            intro y hy
            rcases List.mem_or_eq_of_mem_set hy with h | h
            · exact HXB.out y h
            · rw [h]; exact ⟨z2, z3⟩
          have HB13 : Hid (Below w.heap.size w w13) := HBw.out.trans (HB4'.out.mono HBw.out.size)
          generalize x.set k8 z = y at *
          clear f0 f1 hz e1 hu z1 z2 z3 hub HO4
          go_wp2_with (fail)
          (with_reducible refine (Decode_any _ X c12 y w13 HR13.out HXS.out hc121 hc122 HBS.out).mono ?_)
          rintro e14 w14 ⟨A14, c14, rfl, hc141, hc142, hr14, hb14⟩
          have HB14 : Hid (Below w.heap.size w w14) := HB13.out.trans (hb14.mono HB13.out.size)
          obtain ⟨⟨⟨s5, d5⟩, k5⟩, hq5⟩ : ∃ q, decO y = q := ⟨_, rfl⟩
          rw [hq5] at hc141 hr14 HSP ⊢
          simp only at hc141 hr14 HSP ⊢
          have HE5 := Lib.hid (errV_ne HSP.out)
          rw [HE5.out]
          obtain ⟨L5, hL5⟩ : ∃ L, d5.length = L := ⟨_, rfl⟩
          rw [hL5]
          have HBF : Hid (∀ o, Below w.heap.size w (w14.alloc o)) := fun o => HB14.out.alloc HB14.out.size o
          clear hr14 hb14 hq5 hc141 hL5
          go_wp2
          go_ret
          exact ⟨rfl, HBF.out _⟩

theorem bus_any (A A' : Option Addr) (n c n' c' : Nat) (l : List Ob) (m : List It) (bit : Int) (w : World) (hA : Rd w w.heap.size A (ocells l)) (hn : l.length = n) (hc : n ≤ c) (hcc : c ≤ maxLen)
    (hA' : Rd w w.heap.size A' (mcells m)) (hn' : m.length = n') (hc' : n' ≤ c') (hcc' : c' ≤ maxLen) (hb : (Lit.int .u16 bit).wf = true) :
    Calls Try.prog 8 #[.slice A n c, .slice A' n' c', .int .u16 bit] w fun e w' => e = .returned (.bool true) ∧ Below w.heap.size w w' := by
  obtain ⟨b0, b1⟩ := bounds_u16 hb
  by_cases h1 : 40 < n ∨ 20 < n'
  · exact bus_long A A' n c n' c' bit w (Nat.le_trans hc hcc) (Nat.le_trans hc' hcc') h1
  · by_cases h2 : checkO l = 0
    · by_cases h3 : (findM l (chkO m true) m).2 = 0
      · obtain ⟨B, rfl⟩ := Int.eq_ofNat_of_zero_le b0
        exact bus_main A A' n c n' c' l m B w hA hn hc hcc hA' hn' hc' hcc' (by omega) (by omega) (by omega) h2 h3
      · exact bus_bad A A' n c n' c' l m bit w hA hn hc hcc hA' hn' hc' hcc' (by omega) (by omega) (.inr ⟨h2, h3⟩)
    · exact bus_bad A A' n c n' c' l m bit w hA hn hc hcc hA' hn' hc' hcc' (by omega) (by omega) (.inl h2)
end Go.Proofs.Ytjdknddnanopaaa.Bus
