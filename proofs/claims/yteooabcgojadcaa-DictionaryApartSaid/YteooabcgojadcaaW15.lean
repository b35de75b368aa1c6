/-
  The statement DictionaryApart, walked.
-/
import Derived.Test.YteooabcgojadcaaW12
namespace Go.Proofs.Yteooabcgojadcaa
open Go.RowKit
set_option linter.unusedVariables false

theorem own_base {w : World} {base base' : Nat} {e : TypeId} {size : Nat} {v : Value} {n : Nat} {xs : List Value} (h : w.ownsRow base e size v n xs) (hb : base' ≤ base) : w.ownsRow base' e size v n xs := by
  refine ⟨h.1, ?_⟩
  rcases h.2 with h | ⟨g, cap, cur, h1, h2, h3⟩
  · exact .inl h
  · exact .inr ⟨g, cap, cur, h1, Nat.le_trans hb h2, h3⟩

section
variable {w0 wr w' z : World} {d : Nat} {v : Value} {bp bk : Nat} {l : List Ob}
theorem Dic.rebase (h : Dic w0 wr d v bp bk l) (hb : Below z.heap.size z wr) (hs : z.heap.size ≤ w0.heap.size) : Dic z wr d v bp bk l := by
  obtain ⟨k, k', h, h8⟩ := h
  exact ⟨k, k', ⟨hb, h.c0, h.c1, h.c2, own_base h.row hs, h.pl, h.kn, Nat.le_trans hs h.hd, Nat.le_trans hs h.hp, Nat.le_trans hs h.hk, h.pk, h.dp, h.dk, h.rd, h.rp, h.rk⟩, h8⟩

theorem Dic.off (h : Dic z wr d v bp bk l) {q : Nat} (hg : wr.grownBy w' (some q)) (hz : z.heap.size ≤ q) (h1 : q ≠ d) (h2 : q ≠ bp) (h3 : q ≠ bk) (h4 : v.ownBlock ≠ some q) : Dic z w' d v bp bk l := by
  obtain ⟨k, k', h, h8⟩ := h
  exact ⟨k, k', ⟨h.below.grown hg h.below.size (fun k hk => by cases hk; exact hz), hg.cell h.c0 (fun e => h1 (by simpa using e.symm)), hg.cell h.c1 (fun e => h1 (by simpa using e.symm)), hg.cell h.c2 (fun e => h1 (by simpa using e.symm)),
    kept_of h.row hg (fun g' e e' => h4 (by rw [e, e'])), h.pl.kept hg (fun e => h2 (by simpa using e.symm)), h.kn.kept hg (fun e => h3 (by simpa using e.symm)), h.hd, h.hp, h.hk, h.pk, h.dp, h.dk, h.rd, h.rp, h.rk⟩, h8⟩

/-- A dictionary's blocks: made since w0, and there. -/
theorem Dic.blocks (h : Dic w0 wr d v bp bk l) : (w0.heap.size ≤ d ∧ d < wr.heap.size) ∧ (w0.heap.size ≤ bp ∧ bp < wr.heap.size) ∧ (w0.heap.size ≤ bk ∧ bk < wr.heap.size) ∧ (∀ g, v.ownBlock = some g → w0.heap.size ≤ g ∧ g < wr.heap.size) := by
  obtain ⟨k, k', h, h8⟩ := h
  exact ⟨⟨h.hd, World.block_lt_of_cell? wr _ h.c0⟩, ⟨h.hp, h.pl.lt⟩, ⟨h.hk, h.kn.lt⟩, fun g e => h.row.lt g e⟩
end

/-- A store into the value of an object of a row of one's own. -/
theorem own_bump {w : World} {base g n cap : Nat} {lk : List Ob} (hl : lk.length = n) (h : w.ownsRow base 52 9 (.slice (some ⟨g, 0, none⟩) n cap) n (ocells lk)) {j : Nat} (hj : j < n) :
    ∃ y : Int, w.cell? ⟨g, j * 9 + 6, none⟩ = some (.int .i64 y) ∧ w.frozen? ⟨g, j * 9 + 6, none⟩ = false ∧ ∀ u : Int, ∃ lk', lk'.length = n ∧
      (w.setCell ⟨g, j * 9 + 6, none⟩ (.int .i64 u)).ownsRow base 52 9 (.slice (some ⟨g, 0, none⟩) n cap) n (ocells lk') ∧ w.grownBy (w.setCell ⟨g, j * 9 + 6, none⟩ (.int .i64 u)) (some g) := by
  obtain ⟨x, hx⟩ := getElem?_of_lt (l := lk) (k := j) (by rw [hl]; exact hj)
  refine ⟨x.v, own_flat Ob.cells 9 Ob.cells_length hl h hx 6 (by omega), h.frozenAt _, fun u => ?_⟩
  obtain ⟨h2, hg⟩ := h.stored (j * 9 + 6) (.int .i64 u)
  have hz : ocells (lk.set j (x.with u)) = (ocells lk).set (j * 9 + 6) (.int .i64 u) := flat_set Ob.cells 9 Ob.cells_length lk j x (x.with u) 6 _ hx (by omega) rfl
  rw [← hz] at h2
  exact ⟨_, by rw [List.length_set]; exact hl, h2, hg⟩

set_option maxRecDepth 100000 in
set_option maxHeartbeats 1000000 in
theorem dapart_long (A : Option Addr) (n c : Nat) (x : Ac) (w : World) (hn : n ≤ maxLen) (hx : x.ok w w.heap.size) (h : 200 < n ∨ 20 < x.n) :
    Calls Try.prog 9 #[.slice A n c, .agg x.cells.toArray] w fun e w' => e = .returned (.bool true) ∧ Below w.heap.size w w' := by
  have x1 := hx.cap
  have x2 := hx.max
  unfold maxLen at hn x2
  simp only [Ac.cells]
  clear hx
  by_cases h1 : 200 < n
  · clear h
    go_enter Try.func9, Try.ntmps9
    go_wp2_with (fail)
    refine (awake53_any _).mono ?_
    rintro e w1 ⟨rfl, hb⟩
    have HB : Hid (Below w.heap.size w w1) := ((Below.refl _ _).alloc (Nat.le_refl _) _).trans (hb.mono (by simp))
    clear hb
    go_wp2_with (fail)
    refine (awake53_any _).mono ?_
    rintro e w3 ⟨rfl, hb⟩
    have HB3 : Hid (Below w.heap.size w w3) := HB.out.trans (hb.mono HB.out.size)
    clear hb
    go_wp2
    go_ret
    exact ⟨rfl, HB3.out⟩
  · have h2 : 20 < x.n := by omega
    clear h
    go_enter Try.func9, Try.ntmps9
    go_wp2_with (fail)
    refine (awake53_any _).mono ?_
    rintro e w1 ⟨rfl, hb⟩
    have HB : Hid (Below w.heap.size w w1) := ((Below.refl _ _).alloc (Nat.le_refl _) _).trans (hb.mono (by simp))
    have e4 : w1.cell? ⟨w.heap.size, 4, none⟩ = some (.slice x.A x.n x.c) := by
      rw [hb.cell (p := ⟨w.heap.size, 4, none⟩) (by simp)]
      exact cell_new_at _ _ _ _ _ _ rfl rfl
    clear hb
    go_wp2_with (fail)
    refine (awake53_any _).mono ?_
    rintro e w3 ⟨rfl, hb⟩
    have HB3 : Hid (Below w.heap.size w w3) := HB.out.trans (hb.mono HB.out.size)
    clear hb
    go_wp2
    go_ret
    exact ⟨rfl, HB3.out⟩

set_option maxRecDepth 100000 in
set_option maxHeartbeats 8000000 in
theorem dapart_main (A : Option Addr) (n c : Nat) (l : List Ob) (x : Ac) (w : World) (hA : Rd w w.heap.size A (ocells l)) (hn : l.length = n) (hc : n ≤ c) (hcc : c ≤ maxLen) (hx : x.ok w w.heap.size) (h200 : n ≤ 200) (h20 : x.n ≤ 20) :
    Calls Try.prog 9 #[.slice A n c, .agg x.cells.toArray] w fun e w' => e = .returned (.bool true) ∧ Below w.heap.size w w' := by
  have x1 := hx.cap
  have x2 := hx.max
  unfold maxLen at x2
  have hcc9 := hcc
  unfold maxLen at hcc9
  have HA := Lib.hid hA
  have HN := Lib.hid hn
  have HX := Lib.hid hx
  have HCC := Lib.hid hcc
  have h1 := ne_nil
  have h2 := ne_err
  simp only [Ac.cells]
  have HN9 : Hid ((ocells l).length = n * 9) := by rw [ocells_length, hn]; rfl
  obtain ⟨i0, hi, hz0, hz1, hz2⟩ := info_parts info52
  have hm0 : 0 ≤ maxLen := Nat.zero_le _
  clear hA hn hx hcc
  go_enter Try.func9, Try.ntmps9
  go_upto_region 1 with (fail)
  obtain ⟨W, hW⟩ : ∃ W, w.alloc (.cells #[.int .u8 x.k, .int .i64 x.i, .int .i64 x.s, .int .i64 x.v, .slice x.A x.n x.c] 48) = W := ⟨_, rfl⟩
  have hBW : Below w.heap.size w W := by rw [← hW]; exact (Below.refl _ _).alloc (Nat.le_refl _) _
  have e1 : W.cell? ⟨w.heap.size, 1, none⟩ = some (.int .i64 x.i) := by rw [← hW]; exact cell_new_at _ _ _ _ _ _ rfl rfl
  have e2 : W.cell? ⟨w.heap.size, 2, none⟩ = some (.int .i64 x.s) := by rw [← hW]; exact cell_new_at _ _ _ _ _ _ rfl rfl
  have e3 : W.cell? ⟨w.heap.size, 3, none⟩ = some (.int .i64 x.v) := by rw [← hW]; exact cell_new_at _ _ _ _ _ _ rfl rfl
  have e4 : W.cell? ⟨w.heap.size, 4, none⟩ = some (.slice x.A x.n x.c) := by rw [← hW]; exact cell_new_at _ _ _ _ _ _ rfl rfl
  have hB8 : w.heap.size < W.heap.size := by rw [← hW]; simp
  rw [hW]
  have HBW := Lib.hid hBW
  clear hW hBW
  obtain ⟨B8, hB88⟩ : ∃ B, w.heap.size = B := ⟨_, rfl⟩
  rw [hB88] at e1 e2 e3 e4 hB8 ⊢
  go_wp2_with (fail)
  refine (awake53_any _).mono ?_
  rintro e w1 ⟨rfl, hb⟩
  have HB1 : Hid (Below w.heap.size w w1) := HBW.out.trans (hb.mono HBW.out.size)
  have hBB1 := hb
  have f4 : w1.cell? ⟨B8, 4, none⟩ = some (.slice x.A x.n x.c) := (hb.cell (p := ⟨B8, 4, none⟩) hB8).trans e4
  have HBB := Lib.hid hBB1
  clear hb hBB1
  have hs1 := HB1.out.size
  go_wp2_with (at_builtin; refine wpList_append_rd _ rfl _ _ 22 rfl w1.heap.size 52 i0 _ 9 64 Try.underlying22 hi hz0 hz1 hz2 rfl (by omega) _ 0 [] rfl (World.ownsRow_lit w1 #[] 0 (Nat.le_refl _) hm0 rfl) w.heap.size _ n c (ocells l) rfl (HA.out.below (HB1.out.alloc hs1 _) (Nat.le_refl _)) HN9.out (ocells_one l) ?c3 ?c4 ?c5 ?_)
  case c3 => unfold maxLen; omega
  case c4 => omega
  case c5 => simp
  intro v' w2 hown hgrow hat
  have HB12 : Hid (Below w1.heap.size w1 w2) := ((Below.refl w1.heap.size w1).alloc (Nat.le_refl _) _).grown hgrow (by simp) (fun k hk => by simp [Value.ownBlock] at hk; omega)
  try simp only [Nat.zero_add, List.nil_append] at hown
  try rw [Nat.zero_add]
  obtain ⟨A', c', rfl, hc1, hc2, hform⟩ := own_form hown
  have HO := Lib.hid hown
  have HFORM := Lib.hid hform
  obtain ⟨_, _, hqq, _, _, hr2⟩ := own_read hown
  simp only [Value.slice.injEq] at hqq
  obtain ⟨rfl, _, rfl⟩ := hqq
  have HR2 := Lib.hid hr2
  have HB02 : Hid (Below w.heap.size w w2) := HB1.out.trans (HB12.out.mono hs1)
  have hs2 := HB02.out.size
  have hs12 := HB12.out.size
  clear hown hgrow hat hr2 hform f4
  by_cases hk : checkO l = 0
  · have HK := Lib.hid hk
    clear hk
    go_wp2_with (fail)
    (with_reducible refine (New_ok A' n c' l _ HR2.out HN.out hc1 hc2 HK.out).mono ?_)
    rintro e w3 ⟨d, v, bp, bk, rfl, hD⟩
    have HD0 : Hid (Dic w2 w3 d v bp bk l) := Dic.of hD (fine_of HK.out) HN.out
    have HB23 : Hid (Below w2.heap.size w2 w3) := hD.below
    have HB3 : Hid (Below w.heap.size w w3) := HB02.out.trans (HB23.out.mono hs2)
    have hs3 := HB23.out.size
    have g0 : B8 < w1.heap.size := Nat.lt_of_lt_of_le hB8 HBB.out.size
    have hcells : ∀ j u, W.cell? ⟨B8, j, none⟩ = some u → w3.cell? ⟨B8, j, none⟩ = some u := fun j u hu =>
      (HB23.out.cell (p := ⟨B8, j, none⟩) (Nat.lt_of_lt_of_le g0 hs12)).trans ((HB12.out.cell (p := ⟨B8, j, none⟩) g0).trans ((HBB.out.cell (p := ⟨B8, j, none⟩) hB8).trans hu))
    have f1 := hcells 1 _ e1
    have f2 := hcells 2 _ e2
    have f3 := hcells 3 _ e3
    have f4 := hcells 4 _ e4
    have HO3 := Lib.hid (own_below HO.out HB23.out)
    clear hD hcells e1 e2 e3 e4
    go_wp2_with (fail)
    (with_reducible refine (Read_nil x.i x.s _).mono ?_)
    rintro e w4 ⟨rfl, rfl⟩
    go_wp2_with (fail)
    (with_reducible refine (Get_nil x.i x.s _).mono ?_)
    rintro e w4 ⟨rfl, rfl⟩
    go_wp2_with (fail)
    (with_reducible refine (is_err 1 1 _).mono ?_)
    rintro e w4 ⟨rfl, rfl⟩
    go_wp2_with (fail)
    (with_reducible refine (is_err 1 1 _).mono ?_)
    rintro e w4 ⟨rfl, rfl⟩
    go_wp2_with (fail)
    (with_reducible refine (Set_nil x.i x.s x.v _).mono ?_)
    rintro e w4 ⟨rfl, rfl⟩
    go_wp2_with (fail)
    (with_reducible refine (is_err 1 1 _).mono ?_)
    rintro e w4 ⟨rfl, rfl⟩
    go_wp2_with (fail)
    (with_reducible refine (Write_nil x.i x.s x.A x.n x.c false _).mono ?_)
    rintro e w4 ⟨rfl, rfl⟩
    go_wp2_with (fail)
    (with_reducible refine (is_err 1 1 _).mono ?_)
    rintro e w4 ⟨rfl, rfl⟩
    go_wp2_with (fail)
    (with_reducible refine (List_nil _).mono ?_)
    rintro e w4 ⟨rfl, rfl⟩
    go_wp2_with (fail)
    (with_reducible refine (List_any HD0.out).mono ?_)
    rintro e w4 ⟨v4, rfl, hown4, hb4⟩
    obtain ⟨A4, c4, rfl, hc41, hc42, hform4⟩ := own_form hown4
    rw [HN.out] at hown4 hc41 hform4 ⊢
    have HB34 := Lib.hid hb4
    have HB4 : Hid (Below w.heap.size w w4) := HB3.out.trans (hb4.mono HB3.out.size)
    have HD4 : Hid (Dic w w4 d v bp bk l) := (HD0.out.later hb4).rebase HB4.out hs2
    have HO4 := Lib.hid (own_below HO3.out hb4)
    have HOX := Lib.hid hown4
    have HFORM4 := Lib.hid hform4
    have HBL := Lib.hid HD0.out.blocks
    have hs34 := hb4.size
    unfold maxLen at hc2 hc42
    clear hb4 hown4 hform4 HD0 f1 f2 f3 f4 HO3
    go_wp2
    go_loopw [100] (fun i wr => ∃ j : Nat, j ≤ n ∧ i = .int .i64 j ∧ (∃ lk, lk.length = n ∧ wr.ownsRow w1.heap.size 52 9 (.slice A' n c') n (ocells lk)) ∧ wr.ownsRow w3.heap.size 52 9 (.slice A4 n c4) n (ocells l) ∧ Dic w wr d v bp bk l ∧ Below w.heap.size w wr ∧ w4.heap.size ≤ wr.heap.size) (fun i _ => n - (intOf i).toNat)
    case atStart => exact ⟨0, Nat.zero_le _, rfl, ⟨l, HN.out, HO4.out⟩, HOX.out, HD4.out, HB4.out, Nat.le_refl _⟩
    case round =>
      obtain ⟨j, hj, rfl, ⟨lk, hlk, hO⟩, hX, hD, hB, hsz⟩ := hrel
      have HDr := Lib.hid hD
      have HXr := Lib.hid hX
      have HBr := Lib.hid hB
      clear hD hX hB
      by_cases hlt : j < n
      · obtain ⟨q, rfl, hq1, hq2⟩ := HFORM.out (by omega)
        obtain ⟨y, hcell, hfr, hu⟩ := own_bump hlk hO hlt
        have HST : Hid (∀ u : Int, (∃ lk, lk.length = n ∧ (wr.setCell ⟨q, j * 9 + 6, none⟩ (.int .i64 u)).ownsRow w1.heap.size 52 9 (.slice (some ⟨q, 0, none⟩) n c') n (ocells lk)) ∧ (wr.setCell ⟨q, j * 9 + 6, none⟩ (.int .i64 u)).ownsRow w3.heap.size 52 9 (.slice A4 n c4) n (ocells l) ∧ Dic w (wr.setCell ⟨q, j * 9 + 6, none⟩ (.int .i64 u)) d v bp bk l ∧ Below w.heap.size w (wr.setCell ⟨q, j * 9 + 6, none⟩ (.int .i64 u)) ∧ w4.heap.size ≤ (wr.setCell ⟨q, j * 9 + 6, none⟩ (.int .i64 u)).heap.size) := by
          intro u
          obtain ⟨lk', g1, g2, g3⟩ := hu u
          obtain ⟨⟨b1, _⟩, ⟨b2, _⟩, ⟨b3, _⟩, b4⟩ := HBL.out
          refine ⟨⟨lk', g1, g2⟩, kept_of HXr.out g3 (fun g' e e' => ?_), HDr.out.off g3 (by omega) (by omega) (by omega) (by omega) (fun e => ?_), HBr.out.setCell (p := ⟨q, j * 9 + 6, none⟩) (by show _ ≤ q; omega) _, Nat.le_trans hsz g3.size⟩
          · have := (HXr.out.lt g' e).1
            have : q = g' := by simpa using e'
            omega
          · have := (b4 q e).1
            omega
        clear hu hlk hO
        go_wp2
        go_roundw
        case rel => exact ⟨j + 1, by omega, by go_num, HST.out _⟩
        case measure => simp [intOf]; omega
      · have hjn : j = n := by omega
        subst hjn
        clear hlk hO
        go_wp2
        go_loopw [114] (fun i wx => ∃ m : Nat, m ≤ j ∧ i = .int .i64 m ∧ (∃ lk, lk.length = j ∧ wx.ownsRow w3.heap.size 52 9 (.slice A4 j c4) j (ocells lk)) ∧ Dic w wx d v bp bk l ∧ Below w.heap.size w wx) (fun i _ => j - (intOf i).toNat)
        case atStart => exact ⟨0, Nat.zero_le _, rfl, ⟨l, HN.out, HXr.out⟩, HDr.out, HBr.out⟩
        case round =>
          obtain ⟨m, hm, rfl, ⟨lk, hlk, hO⟩, hD, hB⟩ := hrel
          have HDx := Lib.hid hD
          have HBx := Lib.hid hB
          clear hD hB
          by_cases hlt2 : m < j
          · obtain ⟨q, rfl, hq1, hq2⟩ := HFORM4.out (by omega)
            obtain ⟨y, hcell, hfr, hu⟩ := own_bump hlk hO hlt2
            have HST : Hid (∀ u : Int, (∃ lk, lk.length = j ∧ (wr.setCell ⟨q, m * 9 + 6, none⟩ (.int .i64 u)).ownsRow w3.heap.size 52 9 (.slice (some ⟨q, 0, none⟩) j c4) j (ocells lk)) ∧ Dic w (wr.setCell ⟨q, m * 9 + 6, none⟩ (.int .i64 u)) d v bp bk l ∧ Below w.heap.size w (wr.setCell ⟨q, m * 9 + 6, none⟩ (.int .i64 u))) := by
              intro u
              obtain ⟨lk', g1, g2, g3⟩ := hu u
              obtain ⟨⟨_, b1⟩, ⟨_, b2⟩, ⟨_, b3⟩, b4⟩ := HBL.out
              refine ⟨⟨lk', g1, g2⟩, HDx.out.off g3 (by omega) (by omega) (by omega) (by omega) (fun e => ?_), HBx.out.setCell (p := ⟨q, m * 9 + 6, none⟩) (by show _ ≤ q; omega) _⟩
              have := (b4 q e).2
              omega
            clear hu hlk hO
            go_wp2
            go_roundw
            case rel => exact ⟨m + 1, by omega, by go_num, HST.out _⟩
            case measure => simp [intOf]; omega
          · clear hlk hO
            go_wp2_with (fail)
            (with_reducible refine (List_any HDx.out).mono ?_)
            rintro e w5 ⟨v5, rfl, hown, hb⟩
            obtain ⟨A5, c5, rfl, hc51, hc52, hr5⟩ := own_read hown
            rw [HN.out] at hc51 ⊢
            have HB5 : Hid (Below w.heap.size w w5) := HBx.out.trans (hb.mono HBx.out.size)
            have HR5 := Lib.hid hr5
            clear hown hb hr5
            go_wp2_with (fail)
            (with_reducible refine (same_eq A5 A j c5 c l _ HR5.out ((HA.out.below HB5.out (Nat.le_refl _)).more HB5.out.size) HN.out (by unfold maxLen; omega)).mono ?_)
            rintro e w6 ⟨rfl, q, rfl⟩
            go_wp2
            go_ret
            exact ⟨rfl, Below.drewN HB5.out q⟩
  · obtain ⟨k, hkk⟩ : ∃ k, checkO l = k := ⟨_, rfl⟩
    have HK := Lib.hid hkk
    rw [hkk] at hk
    have HKN := Lib.hid hk
    clear hk hkk
    go_wp2_with (fail)
    (with_reducible refine (New_err A' n c' l _ HR2.out HN.out hc1 hc2 k HK.out HKN.out).mono ?_)
    rintro e w3 ⟨rfl, hb⟩
    have HB23 := Lib.hid hb
    have HB3 : Hid (Below w.heap.size w w3) := HB02.out.trans (HB23.out.mono hs2)
    have g0 : B8 < w1.heap.size := Nat.lt_of_lt_of_le hB8 HBB.out.size
    have hcells : ∀ j u, W.cell? ⟨B8, j, none⟩ = some u → w3.cell? ⟨B8, j, none⟩ = some u := fun j u hu =>
      (HB23.out.cell (p := ⟨B8, j, none⟩) (Nat.lt_of_lt_of_le g0 hs12)).trans ((HB12.out.cell (p := ⟨B8, j, none⟩) g0).trans ((HBB.out.cell (p := ⟨B8, j, none⟩) hB8).trans hu))
    have f1 := hcells 1 _ e1
    have f2 := hcells 2 _ e2
    have f3 := hcells 3 _ e3
    have f4 := hcells 4 _ e4
    clear hb hcells e1 e2 e3 e4
    go_wp2_with (fail)
    (with_reducible refine (Read_nil x.i x.s _).mono ?_)
    rintro e w4 ⟨rfl, rfl⟩
    go_wp2_with (fail)
    (with_reducible refine (Get_nil x.i x.s _).mono ?_)
    rintro e w4 ⟨rfl, rfl⟩
    go_wp2_with (fail)
    (with_reducible refine (is_err 1 1 _).mono ?_)
    rintro e w4 ⟨rfl, rfl⟩
    go_wp2_with (fail)
    (with_reducible refine (is_err 1 1 _).mono ?_)
    rintro e w4 ⟨rfl, rfl⟩
    go_wp2_with (fail)
    (with_reducible refine (Set_nil x.i x.s x.v _).mono ?_)
    rintro e w4 ⟨rfl, rfl⟩
    go_wp2_with (fail)
    (with_reducible refine (is_err 1 1 _).mono ?_)
    rintro e w4 ⟨rfl, rfl⟩
    go_wp2_with (fail)
    (with_reducible refine (Write_nil x.i x.s x.A x.n x.c false _).mono ?_)
    rintro e w4 ⟨rfl, rfl⟩
    go_wp2_with (fail)
    (with_reducible refine (is_err 1 1 _).mono ?_)
    rintro e w4 ⟨rfl, rfl⟩
    go_wp2_with (fail)
    (with_reducible refine (List_nil _).mono ?_)
    rintro e w4 ⟨rfl, rfl⟩
    go_wp2
    go_ret
    exact ⟨rfl, HB3.out⟩
end Go.Proofs.Yteooabcgojadcaa
