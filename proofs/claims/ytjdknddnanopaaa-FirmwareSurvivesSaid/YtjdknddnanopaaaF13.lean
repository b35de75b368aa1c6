/-
  Firmware: Begin of a bank.
-/
import Derived.Test.YtjdknddnanopaaaF12
namespace Go.Proofs.Ytjdknddnanopaaa
open Go.RowKit
set_option linter.unusedVariables false
set_option linter.unusedSimpArgs false

theorem step_append_qs {P : Program} {ops : Array Oper} {o : Oper} {a : Act} {w : World} {K : Act → World → Prop} {Q : Exit → Act → World → Prop} {E : Prop}
    (hgd : o.guard = none) (s xo : Operand) (t : TypeId) (ho : o.op = .call { callee := .builtin .append, args := #[s, xo], argTypes := #[t, t] })
    (B : Nat) (e : TypeId) (i : TypeInfo) (z : Value) (ht : P.underlying t = some (.slice e)) (hi : P.info? e = some i) (hz : i.zero = some z)
    (hsize : i.size = 1) (hby : i.bytes = 8) (hzs : z.cells.size = 1)
    (v : Value) (q : List Int) (hs : a.eval s = v) (hq : QS w e B v q) (x : Int) (ad : Addr) (c : Nat) (hxo : a.eval xo = .slice (some ad) 1 c) (hx : w.cell? ad = some (.int .i64 x))
    (hl : q.length + 1 ≤ 1000000000) (hB : B ≤ w.heap.size)
    (h : ∀ v' w', QS w' e B v' (q ++ [x]) → w.grownBy w' v.ownBlock → (v'.ownBlock = v.ownBlock ∨ v'.ownBlock = some w.heap.size) → K (a.put o.dst v') w') :
    if Region.wanted o (yielded ops a.tmps) = true then Oper.wp P o a w K Q else E := by
  have hw : Region.wanted o (yielded ops a.tmps) = true := by simp [Region.wanted, hgd]
  rw [if_pos hw]
  obtain ⟨v', w', hrun, h2, h3, h4⟩ := run_append_qs (P := P) w B t o.type e i z ht hi hz hsize hby hzs v q hq x ad c hx hl hB
  unfold Oper.wp execOp
  simp only [ho, resolve, invoke, builtin, Sem.run_bind, Sem.run_pure, Result.andThen_ok, List.map_toArray, List.map_cons, List.map_nil, hs, hxo, hrun]
  exact h v' w' h2 h3 h4

theorem step_call9 {P : Program} {ops : Array Oper} {o : Oper} {a : Act} {w : World} {K : Act → World → Prop} {Q : Exit → Act → World → Prop} {E : Prop} {n : Nat} {al : List Value} (hg : o.guard = none)
    (xl : List Operand) (ats : Array TypeId) (ho : o.op = .call { callee := .value (.func n), args := xl.toArray, argTypes := ats }) (hargs : xl.map a.eval = al) (hent : ∀ (args : Array Value) (w : World), (callFunc n args).run P w = .ok (.enter n args) w)
    (h : Calls P n al.toArray w fun e w' => ∃ v, e = .returned v ∧ K (a.put o.dst v) w') : if Region.wanted o (yielded ops a.tmps) = true then Oper.wp P o a w K Q else E := by
  have hw : Region.wanted o (yielded ops a.tmps) = true := by simp [Region.wanted, hg]
  rw [if_pos hw]
  have he : (execOp a.eval o).run P w = .ok (.enter n al.toArray) w := by
    obtain ⟨dst, op, ty, pos, after, guard⟩ := o
    simp only at ho
    subst ho
    rw [execOp_call_go, show (#[] ++ xl.toArray.map a.eval ++ #[] : Array Value) = al.toArray by rw [← hargs]; simp]
    exact hent _ _
  unfold Oper.wp
  rw [he, Oper.upon_enter]
  refine h.mono ?_
  rintro e w' ⟨v, rfl, h1⟩
  exact h1
theorem enter83 (args : Array Value) (w : World) : (callFunc 83 args).run Try.prog w = .ok (.enter 83 args) w := by
  go_simp

section
variable {w0 w w1 w' : World} {L L' : Lc} {S S' : Sc} {K K' : Kc} {f f' : Fl} {b b' : Bk} {s : St}
/-- Blocks that are set apart are stored anew, and others are set apart. -/
theorem StAt.tagA (h : StAt w0 w L S f s) {Y : Nat → Prop} (hY : ∀ b, Y b → L.E b ∧ ¬ Own5 L S b) (ho : OnlyX Y w w') (hb : Below w0.heap.size w0 w') (E : Nat → Prop) (hE : ∀ b, E b → b < w'.heap.size) (hN : ∀ b, b < w.heap.size → E b → L.E b) (hL : ∀ b, L.E b → E b) : StAt w0 w' { L with E := E } S f s := by
  have h' := h.aside hY ho hb
  have hX : ∀ b, b < w.heap.size → Own { L with E := E } S b → Own L S b := fun b hlt hy => by
    rcases hy with h5 | he
    · exact .inl h5
    · exact .inr (hN b hlt he)
  have hs : ∀ b, Y b → Own { L with E := E } S b := fun b hy => .inr (hL b (hY b hy).1)
  have sl : SlR (Own { L with E := E } S) w' S s := (h.sl.newX hX).onlyX ho hs
  have pk : RdX (Own { L with E := E } S) w' L.Ap (kcells .u8 f.picks) := (h.pk.newX hX).onlyX ho hs
  exact ⟨h'.fl.tag E hE, h'.dd, h'.dl, h'.d1, h'.d2, h'.d3, h'.dg, h'.g1, h'.g2, h'.g3, h'.row, h'.fz, h'.sg, sl, pk⟩
theorem DatV.onlyY {X Y : Nat → Prop} {w w' : World} {K : Kc} {o : Option (List Int)} (h : DatV X w K o) (k : OnlyX Y w w') (hs : ∀ b, Y b → X b) : DatV X w' K o := by
  cases o with
  | none => exact h
  | some d => exact ⟨h.1.onlyX k hs, h.2⟩
/-- A block is appended to those to be erased. -/
theorem BkAt.append (h0 : BkAt w0 w L S K f b) {W w8 : World} (hW : Below w.heap.size w W) {x : Int} {v' : Value} (hq : QS w8 3 w0.heap.size v' (b.erase ++ [x])) (hg : W.grownBy w8 K.v.ownBlock) (hv : v'.ownBlock = K.v.ownBlock ∨ v'.ownBlock = some W.heap.size) :
    BkTo w0 w L S K f { b with erase := b.erase ++ [x] } (w8.setCell ⟨K.D, 11, none⟩ v') := by
  have h := h0.later hW
  have ho8 : OnlyX (fun g => K.v.ownBlock = some g) W w8 := ⟨hg.size, fun k hk hn => hg.block k hk (fun e => hn e.symm)⟩
  have hb8 : Below w0.heap.size w0 w8 := h.st.fl.below.grown hg h.st.fl.below.size (fun k hk => (h.er.lt hk).1)
  have hs8 : StAt w0 w8 { L with E := fun g => L.E g ∨ v'.ownBlock = some g } S f b.st := by
    refine h.st.tagA (fun g hg => ⟨(h.en g hg).2.2, (h.en g hg).1⟩) ho8 hb8 _ (fun g hg' => ?_) (fun g hlt hg' => ?_) (fun g hg' => .inl hg')
    · rcases hg' with hg' | hg'
      · exact Nat.lt_of_lt_of_le (h.st.fl.eb g hg') ho8.size
      · exact (hq.lt hg').2
    · rcases hg' with hg' | hg'
      · exact hg'
      · rcases hv with hv | hv
        · rw [hv] at hg'
          exact (h.en g hg').2.2
        · rw [hv] at hg'
          injection hg' with e
          omega
  have hnK : ¬ K.v.ownBlock = some K.D := fun e => (h.en _ e).2.1 rfl
  have hvn : ∀ g, v'.ownBlock = some g → ¬ Own5 L S g ∧ g ≠ K.D := fun g hg' => by
    rcases hv with hv | hv
    · rw [hv] at hg'
      exact ⟨(h.en g hg').1, (h.en g hg').2.1⟩
    · rw [hv] at hg'
      injection hg' with e
      subst e
      refine ⟨fun h5 => ?_, fun e => ?_⟩
      · have := h.st.own_lt _ (.inl h5)
        omega
      · have := h.lt
        omega
  have ho9 : OnlyX (fun g => g = K.D) w8 (w8.setCell ⟨K.D, 11, none⟩ v') := .set w8 ⟨K.D, 11, none⟩ v' rfl
  have hb9 : Below w0.heap.size w0 (w8.setCell ⟨K.D, 11, none⟩ v') := hb8.setCell (p := ⟨K.D, 11, none⟩) h.dd _
  have row8 : ∀ j u, (K.cells L.d S.D b)[j]? = some u → w8.cell? ⟨K.D, j, none⟩ = some u := fun j u hu => (cell_of_block (ho8.block _ h.lt hnK)).trans (h.row j u hu)
  refine ⟨{ L with E := fun g => L.E g ∨ v'.ownBlock = some g }, S, { K with v := v' }, ?_, ⟨hs8.aside (Y := fun g => g = K.D) (fun g hg => by subst hg; exact ⟨.inl h.ed, h.nd⟩) ho9 hb9, h.dd, h.nd, .inl h.ed, ?_, ?_, hq.block (fun g hg' => ho9.block g (hq.lt hg').2 (hvn g hg').2), fun g hg' => ⟨(hvn g hg').1, (hvn g hg').2, .inr hg'⟩, ?_⟩⟩
  · have hgg : Aft W (w8.setCell ⟨K.D, 11, none⟩ v') L S K { L with E := fun g => L.E g ∨ v'.ownBlock = some g } S { K with v := v' } := by
      refine ⟨(ho8.more (fun g hg => .inr (.inr hg))).trans (ho9.more (fun g hg => .inr (.inl hg))), fun g hlt hg' => ?_, fun g hlt hg' => ?_, fun g hg' => .inl hg', rfl, rfl, rfl, rfl⟩
      · rcases hg' with hg' | hg' | hg'
        · exact .inl hg'
        · exact .inr (.inl hg')
        · rcases hv with hv | hv
          · have hg2 : v'.ownBlock = some g := hg'
            rw [hv] at hg2
            exact .inr (.inr hg2)
          · have hg2 : v'.ownBlock = some g := hg'
            rw [hv] at hg2
            injection hg2 with e
            omega
      · rcases hg' with hg' | hg'
        · exact hg'
        · rcases hv with hv | hv
          · rw [hv] at hg'
            exact (h.en g hg').2.2
          · rw [hv] at hg'
            injection hg' with e
            omega
    exact (Aft.of_below hW).trans hgg
  · intro i u hu
    have hc : Kc.cells { K with v := v' } L.d S.D { b with erase := b.erase ++ [x] } = (K.cells L.d S.D b).set 11 v' := rfl
    have hu' : (Kc.cells { K with v := v' } L.d S.D { b with erase := b.erase ++ [x] })[i]? = some u := hu
    rw [hc, List.getElem?_set] at hu'
    by_cases hij : 11 = i
    · subst hij
      rw [if_pos rfl] at hu'
      split at hu'
      · injection hu' with hv2
        subst hv2
        exact World.cell?_setCell_same _ _ _ (row8 11 _ rfl)
      · cases hu'
    · rw [if_neg hij] at hu'
      rw [World.cell?_setCell_other _ _ _ _ (by
        intro e
        injection e with _ e
        exact hij e)]
      exact row8 i u hu'
  · intro i
    rw [World.frozen?_setCell, frozen_of_block (ho8.block _ h.lt hnK)]
    exact h.fz i
  · have hX : ∀ g, g < W.heap.size → Own { L with E := fun g => L.E g ∨ v'.ownBlock = some g } S g → Own L S g := fun g hlt hy => by
      rcases hy with h5 | he | he
      · exact .inl h5
      · exact .inr he
      · rcases hv with hv | hv
        · rw [hv] at he
          exact .inr (h.en g he).2.2
        · rw [hv] at he
          injection he with e
          omega
    exact ((h.dt.newX hX).onlyY ho8 (fun g hg => .inr (.inl (h.en g hg).2.2))).onlyY ho9 (fun g hg => .inr (.inl (by rw [hg]; exact h.ed)))

theorem range_map_snoc (F : Nat → Int) (j : Nat) : (List.range (j + 1)).map F = (List.range j).map F ++ [F j] := by rw [List.range_succ, List.map_append]; rfl
set_option maxRecDepth 100000 in
set_option maxHeartbeats 4000000 in
theorem fbegin_any (h : BkAt w0 w L S K f b) (ho : BkOk f b) (v n : Int) (hn : I64 n) : Calls Try.prog 34 #[.pointer (some ⟨K.D, 0, none⟩), .int .i64 v, .int .i64 n] w (CallR w0 w L S K f (beginB b f v n)) := by
  have g1 := ne_nil
  have g2 := ne_err
  have HR := Lib.hid (fready_any h)
  have HO := Lib.hid (rdy_ok ho)
  have h9 := ho.sp9
  by_cases hbr : (rdyB b f).broken = true
  · have HB : Hid (beginB b f v n = (rdyB b f, 20)) := by unfold beginB; rw [Hid, if_pos hbr]
    rw [if_pos hbr, errV_ne (by decide)] at HR
    clear h ho hbr h9
    go_enter Try.func34, Try.ntmps34
    go_wp2_with (fail)
    (with_reducible refine HR.out.mono ?_)
    rintro e w1 ⟨rfl, hK, hX⟩
    have HK := Lib.hid hK
    have HX := Lib.hid hX
    have c5 : w1.cell? ⟨K.D, 5, none⟩ = some (.int .i64 b.slot) := hK.row 5 _ rfl
    clear hK hX
    go_wp2
    go_ret
    rw [HB.out]
    exact ⟨rfl, .mk' (.bank HX.out) HK.out⟩
  have hbf : (rdyB b f).broken = false := by simpa using hbr
  rw [if_neg hbr, errV_zero] at HR
  have HU := Lib.hid (rdy_up hbf)
  by_cases hs : b.slot = 2
  · have HB : Hid (beginB b f v n = (rdyB b f, 12)) := by unfold beginB; rw [Hid, if_neg hbr, if_pos (.inl hs)]
    clear h ho hbr h9 hbf
    go_enter Try.func34, Try.ntmps34
    go_wp2_with (fail)
    (with_reducible refine HR.out.mono ?_)
    rintro e w1 ⟨rfl, hK, hX⟩
    have HK := Lib.hid hK
    have HX := Lib.hid hX
    have c5 : w1.cell? ⟨K.D, 5, none⟩ = some (.int .i64 b.slot) := hK.row 5 _ rfl
    clear hK hX
    rw [hs] at c5
    go_wp2
    go_ret
    rw [HB.out]
    exact ⟨rfl, .mk' (.bank HX.out) HK.out⟩
  obtain ⟨va, vt, vk, v0, l0, c0, v1, l1, c1, hv, b1, b2, b3, -⟩ := ho.vec
  have hv0 : savB b 0 = (va : Int) := by unfold savB; rw [hv]; rfl
  have hv1 : savB b 1 = (vt : Int) := by unfold savB; rw [hv]; rfl
  have HV0 : Hid (savB (rdyB b f) 0 = (va : Int)) := hv0
  have HV1 : Hid (savB (rdyB b f) 1 = (vt : Int)) := hv1
  have HS9 : Hid ((rdyB b f).st.spec.length = 9) := h9
  have HNE : Hid (∀ d, (rdyB b f).data = some d → d ≠ []) := ho.ne
  have hs4 : ¬ (b.slot : Int) = 2 := by omega
  have hs5 : ((b.slot : Int) == 2) = false := by simpa using hs4
  by_cases ht : vt = 2
  case neg =>
    have HB : Hid (beginB b f v n = (rdyB b f, 12)) := by unfold beginB; rw [Hid, if_neg hbr, if_pos (.inr (.inl (by rw [hv1]; omega)))]
    have ht1 : ¬ (vt : Int) = 2 := by omega
    have ht2 : ((vt : Int) == 2) = false := by simpa using ht1
    clear h ho hbr h9 hbf hs hv hv0 hv1 ht
    go_enter Try.func34, Try.ntmps34
    go_wp2_with (fail)
    (with_reducible refine HR.out.mono ?_)
    rintro e w1 ⟨rfl, hK, hX⟩
    have HK := Lib.hid hK
    have HX := Lib.hid hX
    have c5 : w1.cell? ⟨K.D, 5, none⟩ = some (.int .i64 b.slot) := hK.row 5 _ rfl
    clear hK hX
    go_wp2_with (fail)
    (with_reducible refine (fsaved_any HK.out HO.out.ok 1 1 rfl (by rw [HS9.out]; omega)).mono ?_)
    rintro e w2 ⟨rfl, hB⟩
    rw [HV1.out]
    have HK2 := Lib.hid (HK.out.later hB)
    have HA2 : Hid (Aft w w2 L S K L S K) := (Aft.bank HX.out).trans (Aft.of_below hB)
    have c6 : w2.cell? ⟨K.D, 6, none⟩ = some (.bool b.upload) := HK2.out.row 6 _ rfl
    clear hB c5
    go_wp2
    go_ret
    rw [HB.out]
    exact ⟨rfl, .mk' HA2.out HK2.out⟩
  subst ht
  by_cases hup : b.upload = true
  · have HB : Hid (beginB b f v n = (rdyB b f, 12)) := by unfold beginB; rw [Hid, if_neg hbr, if_pos (.inr (.inr hup))]
    clear h ho hbr h9 hbf hs hv hv0 hv1
    go_enter Try.func34, Try.ntmps34
    go_wp2_with (fail)
    (with_reducible refine HR.out.mono ?_)
    rintro e w1 ⟨rfl, hK, hX⟩
    have HK := Lib.hid hK
    have HX := Lib.hid hX
    have c5 : w1.cell? ⟨K.D, 5, none⟩ = some (.int .i64 b.slot) := hK.row 5 _ rfl
    clear hK hX
    go_wp2_with (fail)
    (with_reducible refine (fsaved_any HK.out HO.out.ok 1 1 rfl (by rw [HS9.out]; omega)).mono ?_)
    rintro e w2 ⟨rfl, hB⟩
    rw [HV1.out]
    have HK2 := Lib.hid (HK.out.later hB)
    have HA2 : Hid (Aft w w2 L S K L S K) := (Aft.bank HX.out).trans (Aft.of_below hB)
    have c6 : w2.cell? ⟨K.D, 6, none⟩ = some (.bool b.upload) := HK2.out.row 6 _ rfl
    clear hB c5
    rw [hup] at c6
    go_wp2
    go_ret
    rw [HB.out]
    exact ⟨rfl, .mk' HA2.out HK2.out⟩
  have hup : b.upload = false := by simpa using hup
  have hst : ¬ (b.slot = 2 ∨ savB b 1 ≠ 2 ∨ b.upload = true) := by rw [hv1, hup]; simp; exact hs
  by_cases hw : workB b = true
  · have HWK : Hid (workB (rdyB b f) = true) := hw
    have HB : Hid (beginB b f v n = (rdyB b f, 14)) := by unfold beginB; rw [Hid, if_neg hbr, if_neg hst, if_pos hw]
    clear h ho hbr h9 hbf hs hv hv0 hv1 hw hst
    go_enter Try.func34, Try.ntmps34
    go_wp2_with (fail)
    (with_reducible refine HR.out.mono ?_)
    rintro e w1 ⟨rfl, hK, hX⟩
    have HK := Lib.hid hK
    have HX := Lib.hid hX
    have c5 : w1.cell? ⟨K.D, 5, none⟩ = some (.int .i64 b.slot) := hK.row 5 _ rfl
    clear hK hX
    go_wp2_with (fail)
    (with_reducible refine (fsaved_any HK.out HO.out.ok 1 1 rfl (by rw [HS9.out]; omega)).mono ?_)
    rintro e w2 ⟨rfl, hB⟩
    rw [HV1.out]
    have HK2 := Lib.hid (HK.out.later hB)
    have HA2 : Hid (Aft w w2 L S K L S K) := (Aft.bank HX.out).trans (Aft.of_below hB)
    have c6 : w2.cell? ⟨K.D, 6, none⟩ = some (.bool b.upload) := HK2.out.row 6 _ rfl
    clear hB c5
    rw [hup] at c6
    go_wp2_with (fail)
    (with_reducible refine (fwork_any HK2.out HNE.out).mono ?_)
    rintro e w3 ⟨rfl, rfl⟩
    rw [HWK.out]
    go_wp2
    go_ret
    rw [HB.out]
    exact ⟨rfl, .mk' HA2.out HK2.out⟩
  have hwf : workB b = false := by simpa using hw
  have HWK : Hid (workB (rdyB b f) = false) := hwf
  have HSZ0 : Hid (∀ w2 : World, BkAt w0 w2 L S K f (rdyB b f) → ∀ q, Calls Try.prog 56 #[.pointer (some ⟨L.d, 0, none⟩), .int .i64 b.blocks] (w2.drewN q) fun e w' => e = .returned (.int .i64 (sizeF f b.blocks : Nat)) ∧ w' = w2.drewN q) := fun w2 hK q => by
    have hB := Below.drewN (Below.refl w2.heap.size w2) q
    refine (fsize_any (hK.later hB).st.fl b.k ho.k8 (b.blocks : Int) (by rw [← ho.bk])).mono ?_
    rintro e w' ⟨he, hw'⟩
    rw [← ho.bk] at he
    exact ⟨he, hw'.symm⟩
  have HW1 : Hid (∀ W, Calls Try.prog 62 #[.int .i64 v, .int .i64 1, .int .i64 1073741824] W fun e w' => e = .returned (.bool (decide (1 ≤ v ∧ v ≤ 1073741824))) ∧ w' = W) := fun W => (within62 v 1 1073741824 W).mono (fun e w' hh => ⟨hh.1, hh.2.symm⟩)
  have HW2 : Hid (∀ W, Calls Try.prog 62 #[.int .i64 n, .int .i64 1, .int .i64 (sizeF f b.blocks : Nat)] W fun e w' => e = .returned (.bool (decide (1 ≤ n ∧ n ≤ (sizeF f b.blocks : Nat)))) ∧ w' = W) := fun W => (within62 n 1 _ W).mono (fun e w' hh => ⟨hh.1, hh.2.symm⟩)
  have hsz : sizeF f b.blocks ≤ 8192 := by rw [ho.bk]; exact sizeF_le h.st.fl.ok ho.k8
  have HBN : Hid (beginB b f v n = if ¬ (1 ≤ v ∧ v ≤ 1073741824) ∨ ¬ (1 ≤ n ∧ n ≤ (sizeF f b.blocks : Nat)) then (rdyB b f, 3) else
      ({ rdyB b f with upload := true, dst := 1 - va, version := v, length := n.toNat, fed := 0, erase := (List.range b.k).map fun i => ((blkB b (1 - va) + i : Nat) : Int) }, 0)) := by
    unfold beginB
    rw [Hid, if_neg hbr, if_neg hst, if_neg hw, hv0, Int.toNat_natCast]
  obtain ⟨N, hN⟩ : ∃ N, sizeF f b.blocks = N := ⟨_, rfl⟩
  rw [hN] at HSZ0 HW2 hsz HBN
  by_cases hcv : 1 ≤ v ∧ v ≤ 1073741824
  case neg =>
    have HB : Hid (beginB b f v n = (rdyB b f, 3)) := by rw [Hid, HBN.out, if_pos (.inl hcv)]
    rw [decide_eq_false hcv] at HW1
    clear h ho hbr h9 hbf hs hv hv0 hv1 hw hst hcv
    go_enter Try.func34, Try.ntmps34
    go_wp2_with (fail)
    (with_reducible refine HR.out.mono ?_)
    rintro e w1 ⟨rfl, hK, hX⟩
    have HK := Lib.hid hK
    have HX := Lib.hid hX
    have c5 : w1.cell? ⟨K.D, 5, none⟩ = some (.int .i64 b.slot) := hK.row 5 _ rfl
    clear hK hX
    go_wp2_with (fail)
    (with_reducible refine (fsaved_any HK.out HO.out.ok 1 1 rfl (by rw [HS9.out]; omega)).mono ?_)
    rintro e w2 ⟨rfl, hB⟩
    rw [HV1.out]
    have HK2 := Lib.hid (HK.out.later hB)
    have HA2 : Hid (Aft w w2 L S K L S K) := (Aft.bank HX.out).trans (Aft.of_below hB)
    have c6 : w2.cell? ⟨K.D, 6, none⟩ = some (.bool b.upload) := HK2.out.row 6 _ rfl
    clear hB c5
    rw [hup] at c6
    go_wp2_with (fail)
    (with_reducible refine (fwork_any HK2.out HNE.out).mono ?_)
    rintro e w3 ⟨rfl, rfl⟩
    rw [HWK.out]
    have c0 : w2.cell? ⟨K.D, 0, none⟩ = some (.pointer (some ⟨L.d, 0, none⟩)) := HK2.out.row 0 _ rfl
    have c2 : w2.cell? ⟨K.D, 2, none⟩ = some (.int .i64 b.blocks) := HK2.out.row 2 _ rfl
    have HSZ := Lib.hid (HSZ0.out w2 HK2.out)
    go_wp2_with (fail)
    go_quiet ((first | (go_at_call 62; with_reducible exact Calls.quiet_of_same (HW1.out _)) | (go_at_call 62; with_reducible exact Calls.quiet_of_same (HW2.out _)) | (go_at_call 56; with_reducible exact Calls.quiet_of_same (HSZ.out _))))
    go_wp2
    go_ret
    rw [HB.out]
    exact ⟨rfl, .mk' (HA2.out.trans (Aft.of_below (Below.drewN (Below.refl _ _) _))) (HK2.out.later (Below.drewN (Below.refl _ _) _))⟩
  rw [decide_eq_true hcv] at HW1
  by_cases hcn : 1 ≤ n ∧ n ≤ (N : Int)
  case neg =>
    have HB : Hid (beginB b f v n = (rdyB b f, 3)) := by rw [Hid, HBN.out, if_pos (.inr hcn)]
    rw [decide_eq_false hcn] at HW2
    clear h ho hbr h9 hbf hs hv hv0 hv1 hw hst hcv hcn
    go_enter Try.func34, Try.ntmps34
    go_wp2_with (fail)
    (with_reducible refine HR.out.mono ?_)
    rintro e w1 ⟨rfl, hK, hX⟩
    have HK := Lib.hid hK
    have HX := Lib.hid hX
    have c5 : w1.cell? ⟨K.D, 5, none⟩ = some (.int .i64 b.slot) := hK.row 5 _ rfl
    clear hK hX
    go_wp2_with (fail)
    (with_reducible refine (fsaved_any HK.out HO.out.ok 1 1 rfl (by rw [HS9.out]; omega)).mono ?_)
    rintro e w2 ⟨rfl, hB⟩
    rw [HV1.out]
    have HK2 := Lib.hid (HK.out.later hB)
    have HA2 : Hid (Aft w w2 L S K L S K) := (Aft.bank HX.out).trans (Aft.of_below hB)
    have c6 : w2.cell? ⟨K.D, 6, none⟩ = some (.bool b.upload) := HK2.out.row 6 _ rfl
    clear hB c5
    rw [hup] at c6
    go_wp2_with (fail)
    (with_reducible refine (fwork_any HK2.out HNE.out).mono ?_)
    rintro e w3 ⟨rfl, rfl⟩
    rw [HWK.out]
    have c0 : w2.cell? ⟨K.D, 0, none⟩ = some (.pointer (some ⟨L.d, 0, none⟩)) := HK2.out.row 0 _ rfl
    have c2 : w2.cell? ⟨K.D, 2, none⟩ = some (.int .i64 b.blocks) := HK2.out.row 2 _ rfl
    have HSZ := Lib.hid (HSZ0.out w2 HK2.out)
    go_wp2_with (fail)
    go_quiet ((first | (go_at_call 62; with_reducible exact Calls.quiet_of_same (HW1.out _)) | (go_at_call 62; with_reducible exact Calls.quiet_of_same (HW2.out _)) | (go_at_call 56; with_reducible exact Calls.quiet_of_same (HSZ.out _))))
    go_wp2
    go_ret
    rw [HB.out]
    exact ⟨rfl, .mk' (HA2.out.trans (Aft.of_below (Below.drewN (Below.refl _ _) _))) (HK2.out.later (Below.drewN (Below.refl _ _) _))⟩
  rw [decide_eq_true hcn] at HW2
  obtain ⟨m, hm⟩ : ∃ m : Nat, n = m := ⟨n.toNat, by omega⟩
  subst hm
  obtain ⟨t, htt⟩ : ∃ t, 1 - va = t := ⟨_, rfl⟩
  have htd : (1 : Int) - (va : Int) = (t : Int) := by omega
  have ht2 : t ≤ 1 := by omega
  have HB : Hid (beginB b f v (m : Int) = ({ rdyB b f with upload := true, dst := t, version := v, length := m, fed := 0, erase := (List.range b.k).map fun i => ((blkB b t + i : Nat) : Int) }, 0)) := by
    rw [Hid, HBN.out, if_neg (by rintro (e | e) <;> exact e (by assumption)), htt, Int.toNat_natCast]
  have HER : Hid ((rdyB b f).erase = []) := by
    unfold workB at hwf
    simp only [Bool.or_eq_false_iff, Bool.not_eq_false', List.isEmpty_iff] at hwf
    exact hwf.1.1
  obtain ⟨kk, hkk⟩ : ∃ kk, b.k = kk := ⟨_, rfl⟩
  have hblk : b.blocks = 2 * kk + 2 := by rw [← hkk]; exact ho.bk
  have hk1 : kk ≤ 8 := by rw [← hkk]; exact ho.k8
  rw [hkk] at HB
  have HBK : Hid (b.k = kk) := hkk
  have HFI : Hid (b.first ≤ 64) := by have := ho.fw; have := h.st.fl.ok.b2; rw [Hid]; omega
  have HBL : Hid (b.blocks = 2 * b.k + 2 ∧ b.k ≤ 8) := ⟨ho.bk, ho.k8⟩
  have hkk1 : 1 ≤ kk := by rw [← hkk]; exact ho.k1
  have q1 : ((b.blocks : Int) - 2).tdiv 2 = (kk : Int) := by rw [Int.tdiv_eq_ediv_of_nonneg (by omega)]; omega
  have q2 : ((b.blocks : Int) - 2) / 2 = (kk : Int) := by omega
  have hb4 : 4 ≤ b.blocks := by omega
  have hb18 : b.blocks ≤ 18 := by omega
  have hfs : b.first + 2 + t * kk ≤ 82 := by
    have h1 := HFI.out
    have h2 := Nat.mul_le_mul ht2 hk1
    omega
  have hbb : blkB b t ≤ 82 := by unfold blkB; rw [hkk]; exact hfs
  clear h ho hbr h9 hbf hs hv hv0 hv1 hw hst hwf htt hkk hN hfs HBN hblk
  go_enter Try.func34, Try.ntmps34
  go_wp2_with (fail)
  (with_reducible refine HR.out.mono ?_)
  rintro e w1 ⟨rfl, hK, hX⟩
  have HK := Lib.hid hK
  have HX := Lib.hid hX
  have c5 : w1.cell? ⟨K.D, 5, none⟩ = some (.int .i64 b.slot) := hK.row 5 _ rfl
  clear hK hX
  go_wp2_with (fail)
  (with_reducible refine (fsaved_any HK.out HO.out.ok 1 1 rfl (by rw [HS9.out]; omega)).mono ?_)
  rintro e w2 ⟨rfl, hB⟩
  rw [HV1.out]
  have HK2 := Lib.hid (HK.out.later hB)
  have HA2 : Hid (Aft w w2 L S K L S K) := (Aft.bank HX.out).trans (Aft.of_below hB)
  have c6 : w2.cell? ⟨K.D, 6, none⟩ = some (.bool b.upload) := HK2.out.row 6 _ rfl
  clear hB c5
  rw [hup] at c6
  go_wp2_with (fail)
  (with_reducible refine (fwork_any HK2.out HNE.out).mono ?_)
  rintro e w3 ⟨rfl, rfl⟩
  rw [HWK.out]
  have c0 : w2.cell? ⟨K.D, 0, none⟩ = some (.pointer (some ⟨L.d, 0, none⟩)) := HK2.out.row 0 _ rfl
  have c2 : w2.cell? ⟨K.D, 2, none⟩ = some (.int .i64 b.blocks) := HK2.out.row 2 _ rfl
  have HSZ := Lib.hid (HSZ0.out w2 HK2.out)
  go_wp2_with (fail)
  go_quiet ((first | (go_at_call 62; with_reducible exact Calls.quiet_of_same (HW1.out _)) | (go_at_call 62; with_reducible exact Calls.quiet_of_same (HW2.out _)) | (go_at_call 56; with_reducible exact Calls.quiet_of_same (HSZ.out _))))
  trace_state

  obtain ⟨W3, hW3⟩ : ∃ W, w2.drewN nq = W := ⟨_, rfl⟩
  have HK3 : Hid (BkAt w0 W3 L S K f (rdyB b f)) := by rw [← hW3]; exact HK2.out.later (Below.drewN (Below.refl _ _) _)
  have HA3 : Hid (Aft w W3 L S K L S K) := by rw [← hW3]; exact HA2.out.trans (Aft.of_below (Below.drewN (Below.refl _ _) _))
  rw [hW3]
  clear hW3 c6 c0 c2
  go_wp2_with (fail)
  (with_reducible refine (fsaved_any HK3.out HO.out.ok 0 0 rfl (by rw [HS9.out]; omega)).mono ?_)
  rintro e w4 ⟨rfl, hB⟩
  rw [HV0.out]
  have HK4 := Lib.hid (HK3.out.later hB)
  have HA4 : Hid (Aft w w4 L S K L S K) := HA3.out.trans (Aft.of_below hB)
  have HC1 := Lib.hid (HK4.out.cell' 6 (.bool true) { rdyB b f with upload := true } rfl rfl rfl rfl)
  have HC2 := Lib.hid (HC1.out.1.cell' 7 (.int .i64 t) { rdyB b f with upload := true, dst := t } rfl rfl rfl rfl)
  have HC3 := Lib.hid (HC2.out.1.cell' 8 (.int .i64 v) { rdyB b f with upload := true, dst := t, version := v } rfl rfl rfl rfl)
  have HC4 := Lib.hid (HC3.out.1.cell' 9 (.int .i64 m) { rdyB b f with upload := true, dst := t, version := v, length := m } rfl rfl rfl rfl)
  have HC5 := Lib.hid (HC4.out.1.cell' 10 (.int .i64 0) { rdyB b f with upload := true, dst := t, version := v, length := m, fed := 0 } rfl rfl rfl rfl)
  have z6 := HK4.out.fz 6
  have z7 := HK4.out.fz 7
  have z8 := HK4.out.fz 8
  have z9 := HK4.out.fz 9
  have z10 := HK4.out.fz 10
  have y6 : w4.cell? ⟨K.D, 6, none⟩ = some (.bool b.upload) := HK4.out.row 6 _ rfl
  have y7 : w4.cell? ⟨K.D, 7, none⟩ = some (.int .i64 b.dst) := HK4.out.row 7 _ rfl
  have y8 : w4.cell? ⟨K.D, 8, none⟩ = some (.int .i64 b.version) := HK4.out.row 8 _ rfl
  have y9 : w4.cell? ⟨K.D, 9, none⟩ = some (.int .i64 b.length) := HK4.out.row 9 _ rfl
  have y10 : w4.cell? ⟨K.D, 10, none⟩ = some (.int .i64 b.fed) := HK4.out.row 10 _ rfl
  have y2 : w4.cell? ⟨K.D, 2, none⟩ = some (.int .i64 b.blocks) := HK4.out.row 2 _ rfl
  clear hB
  go_wp2_with (fail)
  obtain ⟨W5, hW5⟩ : ∃ W, ((((w4.setCell ⟨K.D, 6, none⟩ (.bool true)).setCell ⟨K.D, 7, none⟩ (.int .i64 t)).setCell ⟨K.D, 8, none⟩ (.int .i64 v)).setCell ⟨K.D, 9, none⟩ (.int .i64 m)).setCell ⟨K.D, 10, none⟩ (.int .i64 0) = W := ⟨_, rfl⟩
  have HT5 : Hid (BkTo w0 w L S K f { rdyB b f with upload := true, dst := t, version := v, length := m, fed := 0, erase := (List.range 0).map fun (i : Nat) => ((blkB b t + i : Nat) : Int) } W5) := by
    rw [← hW5]
    have := HC5.out.1
    refine .mk' (HA4.out.trans ((Aft.bank HC1.out.2).trans ((Aft.bank HC2.out.2).trans ((Aft.bank HC3.out.2).trans ((Aft.bank HC4.out.2).trans (Aft.bank HC5.out.2)))))) ?_
    have e : (rdyB b f).erase = (List.range 0).map fun (i : Nat) => ((blkB b t + i : Nat) : Int) := HER.out
    rw [← e]
    exact HC5.out.1
  rw [hW5]
  clear hW5 z6 z7 z8 z9 z10 y6 y7 y8 y9 y10 y2
  go_loopw [81] (fun i wr => ∃ j : Nat, j ≤ kk ∧ i = .int .i64 j ∧ BkTo w0 w L S K f { rdyB b f with upload := true, dst := t, version := v, length := m, fed := 0, erase := (List.range j).map fun (i : Nat) => ((blkB b t + i : Nat) : Int) } wr) (fun i _ => kk - (intOf i).toNat)
  case atStart => exact ⟨0, Nat.zero_le _, rfl, HT5.out⟩
  case round =>
    obtain ⟨j, hj, rfl, hT⟩ := hrel
    by_cases hlt : j < kk
    · obtain ⟨L1, S1, K1, hA, hK⟩ := hT
      have HK5 := Lib.hid hK
      have HA5 := Lib.hid hA
      have hd := hA.d
      have HD := Lib.hid hd
      have c11 : wr.cell? ⟨K.D, 11, none⟩ = some K1.v := by rw [← hd]; exact hK.row 11 _ rfl
      have c7 : wr.cell? ⟨K.D, 7, none⟩ = some (.int .i64 t) := by rw [← hd]; exact hK.row 7 _ rfl
      have z11 : wr.frozen? ⟨K.D, 11, none⟩ = false := by rw [← hd]; exact hK.fz 11
      have HKS : Hid (∀ W, Below wr.heap.size wr W → W.cell? ⟨K.D, 11, none⟩ = some K1.v ∧ W.cell? ⟨K.D, 7, none⟩ = some (.int .i64 t)) := fun W hB => by
        have h1 := (HK5.out.later hB).row 11 _ rfl
        have h2 := (HK5.out.later hB).row 7 _ rfl
        rw [HD.out] at h1 h2
        exact ⟨h1, h2⟩
      have HBC : Hid (∀ W, Below wr.heap.size wr W → Calls Try.prog 83 #[.pointer (some ⟨K.D, 0, none⟩), .int .i64 t] W fun e w' => e = .returned (.int .i64 (blkB b t : Nat)) ∧ ∃ q, w' = W.drewN q) := fun W hB => by
        have := fblock_any (HK5.out.later hB) HBL.out.1 HBL.out.2 HFI.out (t : Int) t rfl (by omega)
        rw [HD.out] at this
        exact this
      have HQ : Hid (∀ W, Below wr.heap.size wr W → QS W 3 w0.heap.size K1.v ((List.range j).map fun (i : Nat) => ((blkB b t + i : Nat) : Int))) := fun W hB => (HK5.out.later hB).er
      have HB0 : Hid (∀ W, Below wr.heap.size wr W → w0.heap.size ≤ W.heap.size) := fun W hB => (HK5.out.later hB).st.fl.below.size
      have q3 : IntKind.i64.wrap (((blkB b t : Nat) : Int) + (j : Int)) = ((blkB b t + j : Nat) : Int) := by rw [IntWalk.i64_in _ (by omega)]; push_cast; rfl
      have HLN : Hid (((List.range j).map fun (i : Nat) => ((blkB b t + i : Nat) : Int)).length + 1 ≤ 1000000000) := by rw [Hid, List.length_map, List.length_range]; omega
      obtain ⟨i3, hi3, hz30, hz31, hz32⟩ := info_parts info3
      have HBA : Hid (∀ (q : Nat) (o : Obj), Below wr.heap.size wr ((wr.drewN q).alloc o)) := fun q o => (Below.drewN (Below.refl wr.heap.size wr) q).alloc (by rw [drewN_size]; exact Nat.le_refl _) o
      have HZG : Hid (∀ W w8 : World, Below wr.heap.size wr W → W.grownBy w8 K1.v.ownBlock → w8.cell? ⟨K.D, 11, none⟩ = some K1.v ∧ w8.frozen? ⟨K.D, 11, none⟩ = false) := fun W w8 hB hg => by
        have hk := HK5.out.later hB
        have hb := hg.block K.D (by rw [← HD.out]; exact hk.lt) (fun e => (hk.en _ (by rw [HD.out]; exact e.symm)).2.1 rfl)
        have h1 := hk.row 11 _ rfl
        have h2 := hk.fz 11
        rw [HD.out] at h1 h2
        exact ⟨(cell_of_block hb).trans h1, (frozen_of_block hb).trans h2⟩
      have HKG : Hid (∀ W w8 : World, Below wr.heap.size wr W → W.grownBy w8 K1.v.ownBlock → w8.cell? ⟨K.D, 11, none⟩ = some K1.v ∧ w8.cell? ⟨K.D, 7, none⟩ = some (.int .i64 t)) := fun W w8 hB hg => by
        have hk := HK5.out.later hB
        have hb := hg.block K.D (by rw [← HD.out]; exact hk.lt) (fun e => (hk.en _ (by rw [HD.out]; exact e.symm)).2.1 rfl)
        have h1 := hk.row 11 _ rfl
        have h2 := hk.row 7 _ rfl
        rw [HD.out] at h1 h2
        exact ⟨(cell_of_block hb).trans h1, (cell_of_block hb).trans h2⟩
      have c11q : ∀ q, (wr.drewN q).cell? ⟨K.D, 11, none⟩ = some K1.v := fun q => (HKS.out _ (Below.drewN (Below.refl _ _) q)).1
      have c11a : ∀ (q : Nat) (o : Obj), ((wr.drewN q).alloc o).cell? ⟨K.D, 11, none⟩ = some K1.v := fun q o => (HKS.out _ (HBA.out q o)).1
      clear hA hK hd
      go_wp2_with (fail)
      go_region_law (first
        | (refine step_call9 (al := [.pointer (some ⟨K.D, 0, none⟩), .int .i64 t]) rfl _ _ rfl rfl enter83 ?_; refine (HBC.out _ (by first | exact Below.refl _ _ | exact Below.drewN (Below.refl _ _) _ | exact Below.drew (Below.refl _ _))).mono ?_; rintro e wp ⟨rfl, qb, rfl⟩; refine ⟨_, rfl, ?_⟩)
        | (refine step_append_qs rfl _ _ 35 rfl w0.heap.size 3 i3 (.int .i64 0) Try.underlying35 hi3 hz30 hz31 hz32 rfl K1.v _ rfl (HQ.out _ (by first | exact HBA.out _ _ | exact Below.refl _ _ | exact Below.drewN (Below.refl _ _) _ | exact Below.drew (Below.refl _ _) | exact Below.drew (Below.drewN (Below.refl _ _) _) | exact Below.drewN (Below.drew (Below.refl _ _)) _)) ((blkB b t + j : Nat) : Int) _ 1 rfl (by first | exact cell_new_at _ _ _ 0 _ _ rfl rfl) HLN.out (HB0.out _ (by first | exact HBA.out _ _ | exact Below.refl _ _ | exact Below.drewN (Below.refl _ _) _ | exact Below.drew (Below.refl _ _) | exact Below.drew (Below.drewN (Below.refl _ _) _) | exact Below.drewN (Below.drew (Below.refl _ _)) _)) ?_; intro v8 w8 hq8 hg8 hv8; obtain ⟨c8, z8⟩ := HZG.out _ _ (HBA.out _ _) hg8; obtain ⟨-, c87⟩ := HKG.out _ _ (HBA.out _ _) hg8; obtain ⟨A8, cc8, rfl, hc81, hc82⟩ := hq8.form))
      all_goals
        have HT9 : Hid (BkTo w0 w L S K f { rdyB b f with upload := true, dst := t, version := v, length := m, fed := 0, erase := (List.range (j + 1)).map fun (i : Nat) => ((blkB b t + i : Nat) : Int) } (w8.setCell ⟨K.D, 11, none⟩ (.slice A8 (j + 1) cc8))) := by
          have hlen : (((List.range j).map fun (i : Nat) => ((blkB b t + i : Nat) : Int)) ++ [((blkB b t + j : Nat) : Int)]).length = j + 1 := by simp
          have := HK5.out.append (HBA.out _ _) hq8 hg8 hv8
          rw [hlen] at this
          rw [HD.out] at this
          rw [range_map_snoc]
          exact BkTo.then HA5.out this
        clear hq8 hg8 hv8
        go_wp2
        go_roundw
        case rel => exact ⟨j + 1, by omega, by go_num, HT9.out⟩
        case measure => simp [intOf]; omega
    · have hjk : j = kk := by omega
      subst hjk
      have HT6 := Lib.hid hT
      clear hT
      go_wp2
      go_ret
      rw [HB.out]
      exact ⟨rfl, HT6.out⟩
end
end Go.Proofs.Ytjdknddnanopaaa
