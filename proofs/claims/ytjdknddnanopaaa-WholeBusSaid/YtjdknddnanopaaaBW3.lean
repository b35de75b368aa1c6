
/-
  dictionary.New.
-/
import Derived.Test.YtjdknddnanopaaaBW2
import Derived.Test.YtjdknddnanopaaaBMapA
import Derived.Test.YtjdknddnanopaaaBPlain2
namespace Go.Proofs.Ytjdknddnanopaaa.Bus
open Go.RowKit
set_option linter.unusedVariables false

/-- A dictionary in memory, made since w0: its struct, its row of objects, its two maps. -/
structure DictAt (w0 wr : World) (d : Nat) (v : Value) (bp bk : Nat) (l : List Ob) (f : Int → Int → Option Int) (g : Int → Bool) (k k' : Nat) : Prop where
  below : Below w0.heap.size w0 wr
  c0 : wr.cell? ⟨d, 0, none⟩ = some v
  c1 : wr.cell? ⟨d, 1, none⟩ = some (.map (some bp))
  c2 : wr.cell? ⟨d, 2, none⟩ = some (.map (some bk))
  row : wr.ownsRow w0.heap.size 144 9 v l.length (ocells l)
  pl : MapI wr bp k f
  kn : MapB wr bk k' g
  hd : w0.heap.size ≤ d
  hp : w0.heap.size ≤ bp
  hk : w0.heap.size ≤ bk
  pk : bp ≠ bk
  dp : d ≠ bp
  dk : d ≠ bk
  rd : v.ownBlock ≠ some d
  rp : v.ownBlock ≠ some bp
  rk : v.ownBlock ≠ some bk

section
variable {w0 wr w' : World} {d : Nat} {v : Value} {bp bk : Nat} {l : List Ob} {f : Int → Int → Option Int} {g : Int → Bool} {k k' : Nat}

theorem DictAt.kept (h : DictAt w0 wr d v bp bk l f g k k') (hg : wr.grownBy w' none) : DictAt w0 w' d v bp bk l f g k k' :=
  ⟨h.below.grown hg h.below.size (fun k hk => by cases hk), hg.cell h.c0 (by simp), hg.cell h.c1 (by simp), hg.cell h.c2 (by simp), kept_of h.row hg (fun _ _ => by simp), h.pl.kept hg (by simp), h.kn.kept hg (by simp),
    h.hd, h.hp, h.hk, h.pk, h.dp, h.dk, h.rd, h.rp, h.rk⟩
theorem DictAt.alloc (h : DictAt w0 wr d v bp bk l f g k k') (o : Obj) : DictAt w0 (wr.alloc o) d v bp bk l f g k k' := h.kept (World.grownBy_alloc wr o none)
theorem DictAt.drewN (h : DictAt w0 wr d v bp bk l f g k k') (n : Nat) : DictAt w0 (wr.drewN n) d v bp bk l f g k k' := h.kept ⟨rfl, rfl, rfl, Nat.le_refl _, fun _ _ _ => rfl⟩
theorem DictAt.drew (h : DictAt w0 wr d v bp bk l f g k k') : DictAt w0 wr.drew d v bp bk l f g k k' := h.kept ⟨rfl, rfl, rfl, Nat.le_refl _, fun _ _ _ => rfl⟩
theorem DictAt.later (h : DictAt w0 wr d v bp bk l f g k k') (hb : Below wr.heap.size wr w') : DictAt w0 w' d v bp bk l f g k k' := h.kept (grown_of_below hb)

/-- Behind a store into the first map. -/
theorem DictAt.place (h : DictAt w0 wr d v bp bk l f g k k') {f' : Int → Int → Option Int} {n : Nat} (hm : MapI w' bp n f') (hg : wr.grownBy w' (some bp)) : DictAt w0 w' d v bp bk l f' g n k' :=
  ⟨h.below.grown hg h.below.size (fun k hk => by cases hk; exact h.hp), hg.cell h.c0 (fun e => h.dp (by simpa using e)), hg.cell h.c1 (fun e => h.dp (by simpa using e)), hg.cell h.c2 (fun e => h.dp (by simpa using e)),
    kept_of h.row hg (fun g' e e' => h.rp (by rw [e, e'])), hm, h.kn.kept hg (fun e => h.pk (by simpa using e.symm)), h.hd, h.hp, h.hk, h.pk, h.dp, h.dk, h.rd, h.rp, h.rk⟩

/-- Behind a store into the second map. -/
theorem DictAt.known (h : DictAt w0 wr d v bp bk l f g k k') {g' : Int → Bool} {n : Nat} (hm : MapB w' bk n g') (hg : wr.grownBy w' (some bk)) : DictAt w0 w' d v bp bk l f g' k n :=
  ⟨h.below.grown hg h.below.size (fun k hk => by cases hk; exact h.hk), hg.cell h.c0 (fun e => h.dk (by simpa using e)), hg.cell h.c1 (fun e => h.dk (by simpa using e)), hg.cell h.c2 (fun e => h.dk (by simpa using e)),
    kept_of h.row hg (fun g' e e' => h.rk (by rw [e, e'])), h.pl.kept hg (fun e => h.pk (by simpa using e)), hm, h.hd, h.hp, h.hk, h.pk, h.dp, h.dk, h.rd, h.rp, h.rk⟩
end

theorem cell_new_at (w : World) (cs : Array Value) (t : TypeId) (g j : Nat) (u : Value) (hg : g = w.heap.size) (h : cs[j]? = some u) : (w.alloc (.cells cs t)).cell? ⟨g, j, none⟩ = some u := by
  subst hg
  rw [World.cell?_alloc_new]
  exact h

theorem wf_small {x : Int} (h0 : 0 ≤ x) (h1 : x ≤ 70000) : (Lit.int .i64 x).wf = true := WalkArith.wf_i64 (by omega)

theorem info52 : (Try.prog.info? 144).map (fun i => (i.zero, i.size, i.bytes)) = some (some (.agg #[.int .i64 0, .int .i64 0, .int .i64 0, .int .i64 0, .int .i64 0, .int .i64 0, .int .i64 0, .bool false, .bool false]), 9, 64) := by kernel_rfl

set_option maxHeartbeats 1000000 in
theorem New_err (A : Option Addr) (n c : Nat) (l : List Ob) (w : World) (hA : Rd w w.heap.size A (ocells l)) (hn : l.length = n) (hc : n ≤ c) (hcc : c ≤ maxLen) (k : Int) (hk : checkO l = k) (hk0 : k ≠ 0) :
    Calls Try.prog 45 #[.slice A n c] w fun e w' => e = .returned (.tuple #[.pointer none, .iface 77 (.int .i64 k)]) ∧ Below w.heap.size w w' := by
  have HC : Hid (errV (checkO l) = .iface 77 (.int .i64 k)) := by rw [hk]; exact errV_ne hk0
  have h1 := ne_err
  clear hk hk0
  go_enter Try.func45, Try.ntmps45
  go_wp2_with (fail)
  (with_reducible refine (check_any A n c l _ hA hn hc hcc).mono ?_)
  rintro e w1 ⟨rfl, hb⟩
  rw [HC.out]
  have HB := Lib.hid hb
  clear hb
  go_wp2
  go_ret2
  exact ⟨rfl, HB.out⟩

set_option maxRecDepth 100000 in
set_option maxHeartbeats 4000000 in
theorem New_ok (A : Option Addr) (n c : Nat) (l : List Ob) (w : World) (hA : Rd w w.heap.size A (ocells l)) (hn : l.length = n) (hc : n ≤ c) (hcc : c ≤ maxLen) (hk : checkO l = 0) :
    Calls Try.prog 45 #[.slice A n c] w fun e w' => ∃ d v bp bk, e = .returned (.tuple #[.pointer (some ⟨d, 0, none⟩), .nilIface]) ∧ DictAt w w' d v bp bk l (placeTo l n) (knownTo l n) n n := by
  have HC : Hid (errV (checkO l) = .nilIface) := by rw [hk]; rfl
  have h1 := ne_nil
  have hn8 := (fine_of hk).few
  rw [hn] at hn8
  have HF := Lib.hid (fine_of hk)
  have HA := Lib.hid hA
  have HN := Lib.hid hn
  have HN9 : Hid ((ocells l).length = n * 9) := by rw [ocells_length, hn]; rfl
  obtain ⟨i0, hi, hz0, hz1, hz2⟩ := info_parts info52
  clear hk hn hA
  go_enter Try.func45, Try.ntmps45
  go_wp2_with (fail)
  (with_reducible refine (check_any A n c l _ HA.out HN.out hc hcc).mono ?_)
  rintro e w1 ⟨rfl, hb⟩
  rw [HC.out]
  have HB := Lib.hid hb
  have hs : w.heap.size ≤ w1.heap.size := hb.size
  clear hb
  have hm0 : 0 ≤ maxLen := Nat.zero_le _
  go_wp2_with (at_builtin; refine wpList_append_rd _ rfl _ _ 88 rfl w.heap.size 144 i0 _ 9 64 Try.underlying88 hi hz0 hz1 hz2 rfl (by omega) _ 0 [] rfl (World.ownsRow_lit w1 #[] 0 hs hm0 rfl) w.heap.size A n c (ocells l) rfl (HA.out.below (HB.out.alloc hs _) (Nat.le_refl _)) HN9.out (ocells_one l) ?c3 ?c4 ?c5 ?_)
  case c3 => unfold maxLen; omega
  case c4 => omega
  case c5 => simp; omega
  intro v' w2 hown hgrow hat
  have HB2 : Hid (Below w.heap.size w w2) := (HB.out.alloc hs _).grown hgrow (by simp; omega) (fun k hk => by simp [Value.ownBlock] at hk; omega)
  try simp only [Nat.zero_add, List.nil_append] at hown
  try rw [Nat.zero_add]
  obtain ⟨A', c', rfl, hc1, hc2, hform⟩ := own_form hown
  have HO := Lib.hid hown
  have HV : Hid (∀ g, (Value.slice A' n c').ownBlock = some g → g < w2.heap.size) := fun g hg => (hown.lt g hg).2
  have hs2 : w.heap.size ≤ w2.heap.size := HB2.out.size
  clear hown hgrow hat HB hs hform
  have hm1 : ∀ wx, (Instr.makeMap 150 none).run Try.prog wx = .ok (.map (some wx.heap.size)) (wx.alloc (.map #[] 0)) := fun wx => run_makeMap 150 wx
  have hm2 : ∀ wx, (Instr.makeMap 151 none).run Try.prog wx = .ok (.map (some wx.heap.size)) (wx.alloc (.map #[] 0)) := fun wx => run_makeMap 151 wx
  go_wp2
  have HD : Hid (DictAt w (((w2.alloc (.map #[] 0)).alloc (.map #[] 0)).alloc (.cells #[.slice A' n c', .map (some w2.heap.size), .map (some (w2.heap.size + 1))] 153)) (w2.heap.size + 2) (.slice A' n c') w2.heap.size (w2.heap.size + 1) l (placeTo l 0) (knownTo l 0) 0 0) := by
    have hb2 : Below w.heap.size w ((w2.alloc (.map #[] 0)).alloc (.map #[] 0)) := (HB2.out.alloc hs2 _).alloc (by simp; omega) _
    refine ⟨hb2.alloc (by simp; omega) _, cell_new_at _ _ _ _ _ _ (by simp) rfl, cell_new_at _ _ _ _ _ _ (by simp) rfl, cell_new_at _ _ _ _ _ _ (by simp) rfl, ?_, ?_, ?_, by omega, by omega, by omega, by omega, by omega, by omega, ?_, ?_, ?_⟩
    · rw [HN.out]
      exact ((HO.out.alloc _).alloc _).alloc _
    · exact ((MapI.made w2).kept (World.grownBy_alloc _ _ none) (by simp)).kept (World.grownBy_alloc _ _ none) (by simp)
    · have := (MapB.made (w2.alloc (.map #[] 0))).kept (World.grownBy_alloc _ (.cells #[.slice A' n c', .map (some w2.heap.size), .map (some (w2.heap.size + 1))] 153) none) (by simp)
      have e0 : knownTo l 0 = fun _ => false := rfl
      rw [e0]
      simpa using this
    · intro h; have := HV.out _ h; omega
    · intro h; have := HV.out _ h; omega
    · intro h; have := HV.out _ h; omega
  have hds : w2.heap.size + 2 < (((w2.alloc (.map #[] 0)).alloc (.map #[] 0)).alloc (.cells #[.slice A' n c', .map (some w2.heap.size), .map (some (w2.heap.size + 1))] 153)).heap.size := by simp
  generalize (((w2.alloc (.map #[] 0)).alloc (.map #[] 0)).alloc (.cells #[.slice A' n c', .map (some w2.heap.size), .map (some (w2.heap.size + 1))] 153)) = w3 at *
  obtain ⟨d, hd⟩ : ∃ d, w2.heap.size + 2 = d := ⟨_, rfl⟩
  obtain ⟨bk, hbk⟩ : ∃ d, w2.heap.size + 1 = d := ⟨_, rfl⟩
  rw [hd] at HD hds ⊢
  rw [hbk] at HD ⊢
  generalize w2.heap.size = bp at *
  go_loopw [22] (fun i wr => ∃ k : Nat, k ≤ n ∧ i = .int .i64 k ∧ DictAt w wr d (.slice A' n c') bp bk l (placeTo l k) (knownTo l k) k k) (fun i wr => n - (intOf i).toNat)
  case atStart => exact ⟨0, Nat.zero_le _, rfl, HD.out⟩
  case round =>
    obtain ⟨k, hk, rfl, hD⟩ := hrel
    by_cases hlt : k < n
    · obtain ⟨x, hx⟩ := getElem?_of_lt (l := l) (k := k) (by rw [HN.out]; exact hlt)
      obtain ⟨b, off, hAe, hbl, c0, c1, c2, c3, c4, c5, c6, c7, c8⟩ := (HA.out.below hD.below (Nat.le_refl _)).ob hx
      subst hAe
      have HX := Lib.hid hx
      have HDD := Lib.hid hD
      clear hx hD HD
      go_wp2
      have e0 : (wr.alloc (.cells #[.int .i64 x.i, .int .i64 x.s, .int .i64 x.t, .int .i64 x.a, .int .i64 x.lo, .int .i64 x.hi, .int .i64 x.v, .bool x.mp, .bool x.hd] 144)).cell? ⟨wr.heap.size, 0, none⟩ = some (.int .i64 x.i) := by simp
      have e1 : (wr.alloc (.cells #[.int .i64 x.i, .int .i64 x.s, .int .i64 x.t, .int .i64 x.a, .int .i64 x.lo, .int .i64 x.hi, .int .i64 x.v, .bool x.mp, .bool x.hd] 144)).cell? ⟨wr.heap.size, 1, none⟩ = some (.int .i64 x.s) := by simp
      have HD1 := Lib.hid (HDD.out.alloc (.cells #[.int .i64 x.i, .int .i64 x.s, .int .i64 x.t, .int .i64 x.a, .int .i64 x.lo, .int .i64 x.hi, .int .i64 x.v, .bool x.mp, .bool x.hd] 144)).drew
      have hlp := HDD.out.pl.lt
      have hlk := HDD.out.kn.lt
      generalize hW1 : wr.alloc (.cells #[.int .i64 x.i, .int .i64 x.s, .int .i64 x.t, .int .i64 x.a, .int .i64 x.lo, .int .i64 x.hi, .int .i64 x.v, .bool x.mp, .bool x.hd] 144) = W1 at *
      clear hW1
      clear c0 c1 c2 c3 c4 c5 c6 c7 c8 HDD
      obtain ⟨⟨hi1, hi2, hs1, hs2⟩, _, _, _⟩ := (HF.out.each x (List.mem_of_getElem? HX.out)) |>.imp (fun h => by simpa only [Ob.far, not_or, Int.not_lt] using h) id
      obtain ⟨kl, hkey⟩ := key_of x.i x.s (wf_small hi1 (by omega)) (wf_small hs1 (by omega))
      obtain ⟨W2, hrun, hm', hg'⟩ := HD1.out.pl.put (by unfold maxLen; omega) hkey (v := (k : Int)) (wf_small (by omega) (by omega))
      have hd1 : W1.cell? ⟨d, 1, none⟩ = some (.map (some bp)) := HD1.out.c1
      rw [← placeTo_step HX.out] at hm'
      have HD2 := Lib.hid (HD1.out.place hm' hg')
      have hd2 : W2.cell? ⟨d, 2, none⟩ = some (.map (some bk)) := HD2.out.c2
      have hgi : W2.cell? ⟨wr.heap.size, 0, none⟩ = some (.int .i64 x.i) := hg'.cell (show W1.drew.cell? ⟨wr.heap.size, 0, none⟩ = _ from e0) (fun e => by simp at e; omega)
      clear hm' hg' HD1
      simp only [keyV] at hrun
      go_region
      go_wp2
      obtain ⟨W3, hrun2, hm', hg'⟩ := (HD2.out.drew).kn.put (by unfold maxLen; omega) (i := x.i) (wf_small hi1 (by omega))
      rw [← knownTo_step HX.out] at hm'
      have HD3 := Lib.hid ((HD2.out.drew).known hm' hg')
      clear hm' hg' HD2 hrun hd1 e0 e1
      go_region
      go_wp2
      go_roundw
      case rel => exact ⟨k + 1, by omega, by go_num, HD3.out⟩
      case measure => simp [intOf]; omega
    · have : k = n := by omega
      subst this
      have HDD := Lib.hid hD
      clear hD HD
      go_wp2
      go_ret2
      exact ⟨d, _, bp, bk, rfl, HDD.out⟩
end Go.Proofs.Ytjdknddnanopaaa.Bus
