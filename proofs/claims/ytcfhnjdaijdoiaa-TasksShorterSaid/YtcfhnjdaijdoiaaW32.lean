/-
  The statement TasksShorter, walked.
-/
import Derived.Test.YtcfhnjdaijdoiaaW24
import Derived.Test.YtcfhnjdaijdoiaaPlain20
import Derived.Deep.RegionLaw
namespace Go.Proofs.Ytcfhnjdaijdoiaa
open Go.RowKit
set_option linter.unusedVariables false

set_option maxRecDepth 100000 in
set_option maxHeartbeats 1000000 in
theorem tshort_refused (A : Option Addr) (n c : Nat) (l : List Tsk) (x0 x1 : Int) (w : World) (hA : Rd w w.heap.size A (tcells l)) (hn : l.length = n) (hc : n ≤ c) (hcc : c ≤ maxLen) (hk : n = 0 ∨ 40 < n ∨ check l ≠ 0) :
    Calls Try.prog 3 #[.slice A n c, .agg #[.int .u16 x0, .int .u16 x1]] w fun e w' => e = .returned (.bool true) ∧ Below w.heap.size w w' := by
  have h1 := ne_err
  by_cases h0 : n = 0
  · subst h0
    clear hk hA hn
    have e0 : ((0 : Int) == 0) = true := rfl
    go_enter Try.func3, Try.ntmps3
    go_wp2_with (fail)
    refine (awake42 _).mono ?_
    rintro e w1 ⟨rfl, hb⟩
    have HB : Hid (Below w.heap.size w w1) := ((Below.refl _ _).alloc (Nat.le_refl _) _).trans (hb.mono (by simp))
    clear hb
    go_wp2_with (fail)
    refine (awake42 _).mono ?_
    rintro e w3 ⟨rfl, hb⟩
    have HB3 : Hid (Below w.heap.size w w3) := HB.out.trans (hb.mono HB.out.size)
    clear hb
    go_wp2
    go_ret
    exact ⟨rfl, HB3.out⟩
  have e0 : ((n : Int) == 0) = false := by simp; omega
  by_cases h8 : 40 < n
  · clear hk hA hn h0
    go_enter Try.func3, Try.ntmps3
    go_wp2_with (fail)
    refine (awake42 _).mono ?_
    rintro e w1 ⟨rfl, hb⟩
    have HB : Hid (Below w.heap.size w w1) := ((Below.refl _ _).alloc (Nat.le_refl _) _).trans (hb.mono (by simp))
    clear hb
    go_wp2_with (fail)
    refine (awake42 _).mono ?_
    rintro e w3 ⟨rfl, hb⟩
    have HB3 : Hid (Below w.heap.size w w3) := HB.out.trans (hb.mono HB.out.size)
    clear hb
    go_wp2
    go_ret
    exact ⟨rfl, HB3.out⟩
  · have hk0 : check l ≠ 0 := by omega
    obtain ⟨k, hke⟩ : ∃ k, check l = k := ⟨_, rfl⟩
    have HC : Hid (errV (check l) = .iface 47 (.int .i64 k)) := by rw [hke]; exact errV_ne (by rw [← hke]; exact hk0)
    have HA := Lib.hid hA
    have HN := Lib.hid hn
    clear hk hk0 hke hA hn h0
    go_enter Try.func3, Try.ntmps3
    go_wp2_with (fail)
    refine (awake42 _).mono ?_
    rintro e w1 ⟨rfl, hb⟩
    have HB : Hid (Below w.heap.size w w1) := ((Below.refl _ _).alloc (Nat.le_refl _) _).trans (hb.mono (by simp))
    have hs := HB.out.size
    clear hb
    go_wp2_with (fail)
    (with_reducible refine (check_any A n c l _ ((HA.out.below HB.out (Nat.le_refl _)).more hs) HN.out hc hcc).mono ?_)
    rintro e w2 ⟨rfl, hb⟩
    rw [HC.out]
    have HB2 : Hid (Below w.heap.size w w2) := HB.out.trans (hb.mono hs)
    clear hb
    go_wp2_with (fail)
    refine (awake42 _).mono ?_
    rintro e w3 ⟨rfl, hb⟩
    have HB3 : Hid (Below w.heap.size w w3) := HB2.out.trans (hb.mono HB2.out.size)
    clear hb
    go_wp2
    go_ret
    exact ⟨rfl, HB3.out⟩

theorem Rd.prefix {w : World} {B : Nat} {A : Option Addr} {xs ys : List Value} (h : Rd w B A xs) (hp : ys <+: xs) : Rd w B A ys := by
  intro hy
  obtain ⟨z, rfl⟩ := hp
  obtain ⟨b, off, e, hlt, hc⟩ := h (by simp [hy])
  refine ⟨b, off, e, hlt, fun j u hu => hc j u ?_⟩
  rw [List.getElem?_append_left (List.getElem?_eq_some_iff.1 hu).1]
  exact hu

theorem tcells_take (l : List Tsk) (k : Nat) : tcells (l.take k) <+: tcells l := by
  refine ⟨tcells (l.drop k), ?_⟩
  rw [← tcells_append, List.take_append_drop]

theorem icells_take (l : List Int) (k : Nat) : icells (l.take k) <+: icells l := by
  refine ⟨icells (l.drop k), ?_⟩
  simp only [icells, ← List.map_append, List.take_append_drop]

theorem Rd.tail {w : World} {B : Nat} {b off : Nat} {l : List Tsk} (h : Rd w B (some ⟨b, off, none⟩) (tcells l)) (k : Nat) : Rd w B (some ⟨b, off + k * 5, none⟩) (tcells (l.drop k)) := by
  intro hy
  have e : tcells l = tcells (l.take k) ++ tcells (l.drop k) := by rw [← tcells_append, List.take_append_drop]
  obtain ⟨b', off', e', hlt, hc⟩ := h (by rw [e]; simp [hy])
  cases e'
  refine ⟨b, _, rfl, hlt, fun j u hu => ?_⟩
  have hk : k < l.length := by
    by_cases hk : k < l.length
    · exact hk
    · rw [List.drop_eq_nil_of_le (by omega)] at hy
      exact absurd rfl hy
  have := hc (k * 5 + j) u (by
    rw [e, List.getElem?_append_right (by rw [tcells_length, List.length_take]; omega), tcells_length, List.length_take, Nat.min_eq_left (by omega), Nat.add_sub_cancel_left]
    exact hu)
  rw [← Nat.add_assoc] at this
  exact this

theorem step_append_rd {P : Program} {ops : Array Oper} {o : Oper} {a : Act} {w : World} {K : Act → World → Prop} {Q : Exit → Act → World → Prop} {E : Prop}
    (hg : o.guard = none) (s x : Operand) (t : TypeId) (ho : o.op = .call { callee := .builtin .append, args := #[s, x], argTypes := #[t, t] })
    (base : Nat) (e : TypeId) (i : TypeInfo) (z : Value) (size bytes : Nat) (ht : P.underlying t = some (.slice e)) (hi : P.info? e = some i) (hz : i.zero = some z)
    (hsize : i.size = size) (hby : i.bytes = bytes) (hzs : z.cells.size = size) (hsz : 0 < size)
    (v : Value) (n : Nat) (xs : List Value) (hs : a.eval s = v) (hown : w.ownsRow base e size v n xs)
    (B : Nat) (A : Option Addr) (m c : Nat) (news : List Value) (hx : a.eval x = .slice A m c) (hr : Rd w B A news) (hl : news.length = m * size) (h1 : ∀ u ∈ news, u.oneCell' = true)
    (h63 : n + m ≤ maxLen) (hbytes : (n + m) * bytes ≤ 140737488355328) (hbase : base ≤ w.heap.size)
    (h : ∀ v' w', w'.ownsRow base e size v' (n + m) (xs ++ news) → w.grownBy w' v.ownBlock → (v'.ownBlock = v.ownBlock ∨ v'.ownBlock = some w.heap.size) → K (a.put o.dst v') w') :
    if Region.wanted o (yielded ops a.tmps) = true then Oper.wp P o a w K Q else E := by
  have hw : Region.wanted o (yielded ops a.tmps) = true := by simp [Region.wanted, hg]
  rw [if_pos hw]
  exact wp_append_rd w s x t ho base e i z size bytes ht hi hz hsize hby hzs hsz v n xs hs hown B A m c news hx hr hl h1 h63 hbytes hbase h

set_option maxRecDepth 100000 in
set_option maxHeartbeats 8000000 in
theorem tshort_main (A : Option Addr) (n c : Nat) (l : List Tsk) (x0 x1 : Int) (w : World) (hA : Rd w w.heap.size A (tcells l)) (hn : l.length = n) (hc : n ≤ c) (hcc : c ≤ maxLen) (hk : check l = 0) (hpos : 0 < n)
    (hx0 : 0 ≤ x0 ∧ x0 ≤ 65535) (hx1 : 0 ≤ x1 ∧ x1 ≤ 65535) :
    Calls Try.prog 3 #[.slice A n c, .agg #[.int .u16 x0, .int .u16 x1]] w fun e w' => e = .returned (.bool true) ∧ Below w.heap.size w w' := by
  have h1 := ne_nil
  have e0 : ((n : Int) == 0) = false := by simp; omega
  obtain ⟨hg, hn8⟩ := good_of_check hk
  rw [hn] at hn8
  have HC : Hid (errV (check l) = .nilIface) := by rw [hk]; rfl
  obtain ⟨a, ha⟩ : ∃ a : Nat, x0 % 200 = a := ⟨(x0 % 200).toNat, by omega⟩
  obtain ⟨d, hd⟩ : ∃ d : Nat, x1 % 200 = d := ⟨(x1 % 200).toNat, by omega⟩
  have ha2 : x0.tmod 200 = a := by rw [Int.tmod_eq_emod_of_nonneg hx0.1]; exact ha
  have hd2 : x1.tmod 200 = d := by rw [Int.tmod_eq_emod_of_nonneg hx1.1]; exact hd
  have ha3 : a < 200 := by omega
  have hd3 : d < 200 := by omega
  obtain ⟨T, hT⟩ : ∃ T : Nat, (a : Int) + d = T := ⟨a + d, by simp⟩
  have hTa : a ≤ T := by omega
  have hTb : T < 400 := by omega
  have HK := Lib.hid hk
  have HA := Lib.hid hA
  have HN := Lib.hid hn
  obtain ⟨i0, hi, hz0, hz1, hz2⟩ := info_parts info34
  have hm0 : 0 ≤ maxLen := Nat.zero_le _
  have HP : Hid ((simTo l a).2.2 = (simTo l T).2.2.take a) := line_prefix hk hTa
  have HRL : Hid ((simTo (l.eraseIdx (lastTo l l.length)) T).2.2 = (simTo l T).2.2.map (shift (lastTo l l.length))) := rest_line hk (by rw [hn]; exact hpos) T
  have HRC : Hid (check (l.eraseIdx (lastTo l l.length)) = 0) := rest_check hk _
  have HLT : Hid (∀ k, k ≤ n → lastTo l k < n) := by
    intro k hk
    have := lastTo_lt (l := l) (by rw [hn]; exact hpos) k (by rw [hn]; exact hk)
    rw [hn] at this
    exact this
  rw [hn] at HRL HRC
  have HO1 := Lib.hid (sim_out_length l a)
  have HO2 := Lib.hid (sim_out_length l T)
  obtain ⟨x00, x01⟩ := hx0
  obtain ⟨x10, x11⟩ := hx1
  clear hk hA hn hg
  go_enter Try.func3, Try.ntmps3
  go_wp2_with (fail)
  refine (awake42 _).mono ?_
  rintro e w1 ⟨rfl, hb⟩
  have HB : Hid (Below w.heap.size w w1) := ((Below.refl _ _).alloc (Nat.le_refl _) _).trans (hb.mono (by simp))
  have hs := HB.out.size
  clear hb
  go_wp2_with (fail)
  (with_reducible refine (check_any A n c l _ ((HA.out.below HB.out (Nat.le_refl _)).more hs) HN.out hc hcc).mono ?_)
  rintro e w2 ⟨rfl, hb⟩
  rw [HC.out]
  have HB2 : Hid (Below w.heap.size w w2) := HB.out.trans (hb.mono hs)
  have hs2 := HB2.out.size
  clear hb
  go_wp2_with (fail)
  (with_reducible refine (Timeline_ok A n c a l _ ((HA.out.below HB2.out (Nat.le_refl _)).more hs2) HN.out hc hcc HK.out (by omega)).mono ?_)
  rintro e w3 ⟨A1, c1, rfl, c11, c12, hr1, hb⟩
  have HR1 := Lib.hid hr1
  have HB3 : Hid (Below w.heap.size w w3) := HB2.out.trans (hb.mono hs2)
  have hs3 := HB3.out.size
  clear hb hr1
  go_wp2_with (fail)
  (with_reducible refine (Timeline_ok A n c T l _ ((HA.out.below HB3.out (Nat.le_refl _)).more hs3) HN.out hc hcc HK.out (by omega)).mono ?_)
  rintro e w4 ⟨A2, c2, rfl, c21, c22, hr2, hb⟩
  have HR2 := Lib.hid hr2
  have HR1b : Hid (Rd w4 w4.heap.size A1 (icells (simTo l a).2.2)) := (HR1.out.below hb (Nat.le_refl _)).more hb.size
  have HR2p : Hid (Rd w4 w4.heap.size A2 (icells ((simTo l T).2.2.take a))) := HR2.out.prefix (icells_take _ _)
  have HB4 : Hid (Below w.heap.size w w4) := HB3.out.trans (hb.mono hs3)
  have hs4 : w.heap.size ≤ w4.heap.size := HB4.out.size
  clear hb hr2 HR1
  go_wp2_with (fail)
  (with_reducible refine (ints_any A1 A2 a a c1 c2 _ _ _ HR1b.out HR2p.out HO1.out (by rw [List.length_take, HO2.out]; omega) (Nat.le_trans c11 c12) (by omega)).mono ?_)
  rintro e w5 ⟨rfl, q, rfl⟩
  rw [decide_eq_true HP.out]
  have HR2b : Hid (Rd (w4.drewN q) (w4.drewN q).heap.size A2 (icells (simTo l T).2.2)) := HR2.out
  have HB5 : Hid (Below w.heap.size w (w4.drewN q)) := Below.drewN HB4.out q
  clear HR1b HR2p HR2 HB HB2 HB3 HB4 hs hs2 hs3 hs4
  generalize w4.drewN q = w5 at *
  have hs5 : w.heap.size ≤ w5.heap.size := HB5.out.size
  go_wp2
  go_loopw [11, 86] (fun m i wr => ∃ k : Nat, k ≤ n ∧ i = .int .i64 k ∧ m = .int .i64 (lastTo l k) ∧ ∃ q, wr = w5.drewN q) (fun _ i _ => n - (intOf i).toNat)
  case atStart => exact ⟨0, Nat.zero_le _, rfl, rfl, 0, rfl⟩
  case round =>
    obtain ⟨k, hk, rfl, hm, q, rfl⟩ := hrel
    have HB6 : Hid (Below w.heap.size w (w5.drewN q)) := Below.drewN HB5.out q
    have HR6 : Hid (Rd (w5.drewN q) (w5.drewN q).heap.size A2 (icells (simTo l T).2.2)) := HR2b.out
    by_cases hlt : k < n
    · obtain ⟨x, hx⟩ := getElem?_of_lt (l := l) (k := k) (by rw [HN.out]; exact hlt)
      have hJ := HLT.out k hk
      obtain ⟨y, hy⟩ := getElem?_of_lt (l := l) (k := lastTo l k) (by rw [HN.out]; exact hJ)
      obtain ⟨b, off, rfl, hbl, _, _, _, _, z4⟩ := (HA.out.below HB5.out (Nat.le_refl _)).tsk hx
      obtain ⟨b', off', eA, _, _, _, _, _, y4⟩ := (HA.out.below HB5.out (Nat.le_refl _)).tsk hy
      obtain ⟨rfl, rfl⟩ : b = b' ∧ off = off' := by simpa using eA
      have HST := Lib.hid (lastTo_step hx hy)
      clear hx hy eA
      subst hm
      generalize hJJ : lastTo l k = J at *
      have HJJ := Lib.hid hJJ
      clear hJJ
      by_cases hlq : y.q < x.q
      · have HST2 : Hid (lastTo l (k + 1) = k) := by have := HST.out; rw [if_pos hlq] at this; exact this
        have d1 : decide (y.q < x.q) = true := by simp [hlq]
        go_wp2
        go_quiet (fail)
        go_wp2
        go_roundw
        case rel => exact ⟨k + 1, by omega, by go_num, by rw [HST2.out], _, rfl⟩
        case measure => simp [intOf]; omega
      · have HST2 : Hid (lastTo l (k + 1) = J) := by have := HST.out; rw [if_neg hlq] at this; exact this
        have d1 : decide (y.q < x.q) = false := by simp; omega
        go_wp2
        go_quiet (fail)
        go_wp2
        go_roundw
        case rel => exact ⟨k + 1, by omega, by go_num, by rw [HST2.out], _, rfl⟩
        case measure => simp [intOf]; omega
    · have hkn : k = n := by omega
      subst hkn
      have hJ := HLT.out k (Nat.le_refl _)
      obtain ⟨J, hJJ⟩ : ∃ J, lastTo l k = J := ⟨_, rfl⟩
      rw [hJJ] at hm hJ HRL HRC
      subst hm
      clear hJJ HLT HB5 HR2b
      generalize w5.drewN q = w6 at *
      obtain ⟨y, hy⟩ := getElem?_of_lt (l := l) (k := J) (by rw [HN.out]; exact hJ)
      obtain ⟨b, off, rfl, hbl, _⟩ := (HA.out.below HB6.out (Nat.le_refl _)).tsk hy
      clear hy
      go_wp2
      have hs6 : w.heap.size ≤ w6.heap.size := HB6.out.size
      have HOW : Hid (((w6.alloc (.cells #[] 34)).drew).ownsRow w6.heap.size 34 5 (.slice (some ⟨w6.heap.size, 0, none⟩) 0 0) 0 []) := World.ownsRow_lit w6.drew #[] 0 (Nat.le_refl _) hm0 rfl
      have HBW : Hid (Below w6.heap.size w6 ((w6.alloc (.cells #[] 34)).drew)) := (Below.refl w6.heap.size w6).drew.alloc (Nat.le_refl _) _
      have HRW : Hid (Rd ((w6.alloc (.cells #[] 34)).drew) w.heap.size (some ⟨b, off, none⟩) (tcells (l.take J))) := (HA.out.below (HB6.out.trans (HBW.out.mono hs6)) (Nat.le_refl _)).prefix (tcells_take l J)
      have HLW : Hid ((tcells (l.take J)).length = J * 5) := by show _ = _; rw [tcells_length, List.length_take, HN.out, Nat.min_eq_left (by omega)]
      have HLX : Hid ((tcells (l.drop (J + 1))).length = (k - (J + 1)) * 5) := by show _ = _; rw [tcells_length, List.length_drop, HN.out]
      have HHS : Hid (w6.heap.size ≤ ((w6.alloc (.cells #[] 34)).drew).heap.size) := by show _ ≤ _; simp
      have HM1 : Hid (0 + J ≤ maxLen) := by show _ ≤ _; unfold maxLen; omega
      have HM2 : Hid (J + (k - (J + 1)) ≤ maxLen) := by show _ ≤ _; unfold maxLen; omega
      have hJc : J ≤ c := by omega
      have hw1 : IntKind.i64.wrap ((J : Int) + 1) = (J : Int) + 1 := IntWalk.i64_in _ (by omega)
      have hw2 : 0 ≤ (J : Int) + 1 := by omega
      have hw3 : (J : Int) + 1 ≤ k := by omega
      have hw4 : ((J : Int) + 1).toNat = J + 1 := by omega
      obtain ⟨A3, hA3, HRX⟩ : ∃ A3 : Option Addr, (if c = J + 1 then some (⟨b, off, none⟩ : Addr) else some ⟨b, off + (J + 1) * 5, none⟩) = A3 ∧ Hid (∀ wx, Below w.heap.size w wx → Rd wx w.heap.size A3 (tcells (l.drop (J + 1)))) := by
        by_cases hcJ : c = J + 1
        · refine ⟨_, rfl, fun wx h hne => ?_⟩
          have : l.drop (J + 1) = [] := List.drop_eq_nil_of_le (by rw [HN.out]; omega)
          rw [this] at hne
          exact absurd rfl hne
        · rw [if_neg hcJ]
          exact ⟨_, rfl, fun wx h => (HA.out.below h (Nat.le_refl _)).tail (J + 1)⟩
      go_region_law (first
        | (refine step_append_rd rfl (.tmp 102) (.tmp 105) 22 rfl w6.heap.size 34 i0 _ 5 40 Try.underlying22 hi hz0 hz1 hz2 rfl (by omega) (.slice (some ⟨w6.heap.size, 0, none⟩) 0 0) 0 [] (by simp [Act.eval]) HOW.out w.heap.size (some ⟨b, off, none⟩) J c (tcells (l.take J)) (by simp [Act.eval]) HRW.out HLW.out (tcells_one _) HM1.out (by omega) HHS.out ?_
           intro v1 w7 hown1 hgrow1 hat1
           have HB7 : Hid (Below w6.heap.size w6 w7) := HBW.out.grown hgrow1 HHS.out (fun k hk => by simp [Value.ownBlock] at hk; omega)
           rw [Nat.zero_add, List.nil_append] at hown1
           have HOW1 := Lib.hid hown1
           clear hown1 hgrow1 hat1)
        | (refine step_append_rd rfl (.tmp 106) (.tmp 110) 22 rfl w6.heap.size 34 i0 _ 5 40 Try.underlying22 hi hz0 hz1 hz2 rfl (by omega) v1 J (tcells (l.take J)) (by simp [Act.eval]) HOW1.out w.heap.size A3 (k - (J + 1)) (c - (J + 1)) (tcells (l.drop (J + 1))) (by simp [Act.eval]) (HRX.out _ (HB6.out.trans (HB7.out.mono hs6))) HLX.out (tcells_one _) HM2.out (by omega) HB7.out.size ?_
           intro v2 w8 hown2 hgrow2 hat2
           have HB8 : Hid (Below w6.heap.size w6 w8) := HB7.out.grown hgrow2 HB7.out.size (fun k hk => (HOW1.out.lt k hk).1)
           have HOW2 := Lib.hid hown2
           clear hown2 hgrow2 hat2))
      obtain ⟨A4, c4, rfl, g1, g2, g3⟩ := own_read HOW2.out
      rw [← tcells_append, ← List.eraseIdx_eq_take_drop_succ] at g3
      have HR8 := Lib.hid g3
      obtain ⟨nr, hnr⟩ : ∃ nr, J + (k - (J + 1)) = nr := ⟨_, rfl⟩
      have HNR : Hid ((l.eraseIdx J).length = nr) := by
        show _ = _
        rw [← hnr, List.length_eraseIdx_of_lt (by rw [HN.out]; exact hJ), HN.out]
        omega
      rw [hnr] at g1 ⊢
      have HR2w : Hid (Rd w8 w8.heap.size A2 (icells (simTo l T).2.2)) := (HR6.out.below HB8.out (Nat.le_refl _)).more HB8.out.size
      have HB9 : Hid (Below w.heap.size w w8) := HB6.out.trans (HB8.out.mono hs6)
      clear g3 hnr HOW1 HOW2 HB7 HOW HBW HRW HLW HLX HHS HM1 HM2 HRX hA3 hw1 hw2 hw3 hw4 HB6 HB8 HR6
      have hs8 := HB9.out.size
      go_wp2_with (fail)
      (with_reducible refine (Timeline_ok A4 nr c4 T (l.eraseIdx J) _ HR8.out HNR.out g1 g2 HRC.out (by omega)).mono ?_)
      rintro e w9 ⟨A5, c5, rfl, c51, c52, hr5, hb⟩
      rw [HRL.out] at hr5
      have HR5 := Lib.hid hr5
      have HR2z : Hid (Rd w9 w9.heap.size A2 (icells (simTo l T).2.2)) := (HR2w.out.below hb (Nat.le_refl _)).more hb.size
      have HB10 : Hid (Below w.heap.size w w9) := HB9.out.trans (hb.mono hs8)
      have HRG := Lib.hid (sim_run_range l T)
      rw [HN.out] at HRG
      clear hb hr5 HR2w HB9 HR8 hs8
      go_wp2
      go_loopw [128] (fun i wr => ∃ t : Nat, t ≤ T ∧ i = .int .i64 t ∧ wr = w9) (fun i _ => T - (intOf i).toNat)
      case atStart => exact ⟨0, Nat.zero_le _, rfl, rfl⟩
      case round =>
        obtain ⟨t, ht, rfl, rfl⟩ := hrel
        by_cases htT : t < T
        · obtain ⟨r, hr⟩ := getElem?_of_lt (l := (simTo l T).2.2) (k := t) (by rw [HO2.out]; exact htT)
          obtain ⟨b2, o2, rfl, hb2, r0⟩ := HR2z.out.int hr
          obtain ⟨r1, r2⟩ := HRG.out r (List.mem_of_getElem? hr)
          have hz : ((simTo l T).2.2.map (shift J))[t]? = some (shift J r) := by rw [List.getElem?_map, hr]; rfl
          obtain ⟨b5, o5, rfl, hb5, z0⟩ := HR5.out.int hz
          clear hr hz
          by_cases hjr : (J : Int) < r
          · have hsh : shift J r = r - 1 := by unfold shift; rw [if_pos hjr]
            rw [hsh] at z0
            have d1 : decide ((J : Int) < r) = true := by simp [hjr]
            clear hsh
            go_wp2
            go_roundw
            case rel => exact ⟨t + 1, by omega, by go_num, trivial⟩
            case measure => simp [intOf]; omega
          · by_cases hje : r = J
            · have hsh : shift J r = -1 := by unfold shift; rw [if_neg hjr, if_pos hje]
              rw [hsh] at z0
              have d1 : decide ((J : Int) < r) = false := by simp; omega
              have d2 : (r == (J : Int)) = true := by simpa using hje
              clear hsh hje
              go_wp2
              go_roundw
              case rel => exact ⟨t + 1, by omega, by go_num, trivial⟩
              case measure => simp [intOf]; omega
            · have hsh : shift J r = r := by unfold shift; rw [if_neg hjr, if_neg hje]
              rw [hsh] at z0
              have d1 : decide ((J : Int) < r) = false := by simp; omega
              have d2 : (r == (J : Int)) = false := by simpa using hje
              clear hsh hje
              go_wp2
              go_roundw
              case rel => exact ⟨t + 1, by omega, by go_num, trivial⟩
              case measure => simp [intOf]; omega
        · have htt : t = T := by omega
          subst htt
          go_wp2
          go_ret
          exact ⟨rfl, HB10.out⟩
end Go.Proofs.Ytcfhnjdaijdoiaa
