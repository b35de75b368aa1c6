/-
  tasks.simulate.
-/
import Derived.Test.YtcfhnjdaijdoiaaW20
import Derived.Test.YtcfhnjdaijdoiaaW6
import Derived.Test.YtcfhnjdaijdoiaaMem7
namespace Go.Proofs.Ytcfhnjdaijdoiaa
open Go.RowKit
set_option linter.unusedVariables false

theorem info86 : (Try.prog.info? 86).map (fun i => (i.zero, i.size, i.bytes)) = some (some (.agg zeroLine), 7, 72) := by kernel_rfl
theorem info40 : (Try.prog.info? 40).map (fun i => (i.zero, i.size, i.bytes)) = some (some (.agg #[.int .i64 0, .int .i64 0, .int .i64 0, .int .i64 0]), 4, 32) := by kernel_rfl

def SimEnd (l : List Tsk) (T : Nat) (w : World) (e : Ending) (w' : World) : Prop :=
  ∃ A c A' c', e = .returned (.tuple #[.slice A T c, .slice A' (simTo l T).2.1.length c']) ∧ T ≤ c ∧ c ≤ maxLen ∧ (simTo l T).2.1.length ≤ c' ∧ c' ≤ maxLen ∧
    Rd w' w'.heap.size A (icells (simTo l T).2.2) ∧ Rd w' w'.heap.size A' (jcells (simTo l T).2.1) ∧ Below w.heap.size w w'

theorem mod_test (t o p : Int) (h : 0 ≤ t - o) : (t - o).tmod p = (t - o) % p := Int.tmod_eq_emod_of_nonneg h

theorem jb_one (x : Jb) : ∀ u ∈ x.cells, u.oneCell' = true := by
  intro u hu
  simp only [Jb.cells, List.mem_cons, List.not_mem_nil, or_false] at hu
  rcases hu with rfl | rfl | rfl | rfl <;> rfl

theorem Sim.afterRelease {w0 wr w' : World} {n g : Nat} {ls : List Ln} {vs : List Value} {jobs : List Jb} {jv : Value} {out : List Int} {ov : Value} {e : Ending} (h : Sim w0 wr n g ls vs jobs jv out ov) {k m : Nat} {ln : Ln} {v : Value}
    (hk : ls[k]? = some ln) (hv : vs[k]? = some v) (hR : RelEnd g (k * 7) w0.heap.size ln.x.c v ln.q m wr e w') :
    e = .returned (.tuple #[]) ∧ ∃ v', Sim w0 w' n g (ls.set k (relOne m ln)) (vs.set k v') jobs jv out ov := by
  obtain ⟨he, v', w1, hq, hg, hb, rfl⟩ := hR
  refine ⟨he, v', ?_⟩
  have h1 := h.released hk hv hq hg hb
  have hl : k < ls.length := (List.getElem?_eq_some_iff.1 hk).1
  have hl' : k < vs.length := (List.getElem?_eq_some_iff.1 hv).1
  by_cases hq0 : ln.q = []
  · rw [if_pos hq0]
    have h2 := h1.setLine (k := k) (ln' := relOne m ln) (ln := { ln with q := ln.q ++ [(m : Int)] }) (by rw [List.getElem?_set, if_pos rfl, if_pos hl]) (by rw [List.getElem?_set, if_pos rfl, if_pos hl']) 6 (by omega) (.int .i64 ln.x.c)
      (by simp only [relOne, if_pos hq0]; rfl) rfl
    rw [List.set_set] at h2
    exact h2
  · rw [if_neg hq0]
    have e : relOne m ln = { ln with q := ln.q ++ [(m : Int)] } := by simp only [relOne, if_neg hq0]
    rw [e]
    exact h1

theorem pick_step (ls : List Ln) (k : Nat) (ln : Ln) (h : ls[k]? = some ln) :
    pickTo ls (k + 1) = if ln.q ≠ [] ∧ (pickTo ls k < 0 ∨ ∀ y, ls[(pickTo ls k).toNat]? = some y → ln.x.q < y.x.q) then (k : Int) else pickTo ls k := by
  rw [pickTo, h]

theorem sim_next {l : List Tsk} {t k : Nat} {ls la : List Ln} {js ja : List Jb} {os : List Int} {pm : Int} (h : simTo l t = (ls, js, os)) (hk : ls.length = k) (hr : relTo t ls js k = (la, ja)) (hp : pickTo la k = pm) :
    simTo l (t + 1) = if pm < 0 then (la, ja, os ++ [pm]) else ((execAt t la ja pm.toNat).1, (execAt t la ja pm.toNat).2, os ++ [pm]) := by
  simp only [simTo, stepAt, h, hk, hr, hp]
  split <;> rfl

theorem Sim.setJob' {w0 wr : World} {n g : Nat} {ls : List Ln} {vs : List Value} {jobs : List Jb} {out : List Int} {ov : Value} {b c N : Nat} (h : Sim w0 wr n g ls vs jobs (.slice (some ⟨b, 0, none⟩) N c) out ov) (hN : jobs.length = N)
    {k : Nat} {jb jb' : Jb} (hk : jobs[k]? = some jb) (j : Nat) (hj : j < 4) (u : Value) (hc : jb'.cells = jb.cells.set j u) :
    Sim w0 (wr.setCell ⟨b, k * 4 + j, none⟩ u) n g ls vs (jobs.set k jb') (.slice (some ⟨b, 0, none⟩) N c) out ov := by
  subst hN
  have := h.setJob hk j hj u hc
  rw [List.length_set] at this
  exact this

def cutFront (g o n cap : Nat) : Value := if cap = 1 then .slice (some ⟨g, o, none⟩) n 0 else .slice (some ⟨g, o + 1, none⟩) n (cap - 1)

section
variable {w0 wr : World} {n g : Nat} {ls : List Ln} {vs : List Value} {jobs : List Jb} {out : List Int} {ov : Value} {b c N : Nat}
theorem Sim.execA (h : Sim w0 wr n g ls vs jobs (.slice (some ⟨b, 0, none⟩) N c) out ov) {k : Nat} {y : Ln} {v : Value} (hk : ls[k]? = some y) (hv : vs[k]? = some v) :
    Sim w0 (wr.setCell ⟨g, k * 7 + 6, none⟩ (.int .i64 (y.left - 1))) n g (ls.set k { y with left := y.left - 1 }) vs jobs (.slice (some ⟨b, 0, none⟩) N c) out ov :=
  h.setLine hk hv 6 (by omega) _ rfl rfl

theorem Sim.execB (h : Sim w0 wr n g ls vs jobs (.slice (some ⟨b, 0, none⟩) N c) out ov) (hN : jobs.length = N) {k J : Nat} {y : Ln} {jb : Jb} {g2 qo cap : Nat} {x : Int} {qr : List Int} (hk : ls[k]? = some y)
    (hv : vs[k]? = some (.slice (some ⟨g2, qo, none⟩) (qr.length + 1) cap)) (hq : y.q = x :: qr) (hJ : jobs[J]? = some jb) (fin : Int) :
    Sim w0 ((((wr.setCell ⟨g, k * 7 + 6, none⟩ (.int .i64 (y.left - 1))).setCell ⟨b, J * 4 + 3, none⟩ (.int .i64 fin)).setCell ⟨g, k * 7 + 5, none⟩ (cutFront g2 qo qr.length cap)).setCell ⟨g, k * 7 + 6, none⟩ (.int .i64 y.x.c))
      n g (ls.set k { y with q := qr, left := y.x.c }) (vs.set k (cutFront g2 qo qr.length cap)) (jobs.set J { jb with fin := fin }) (.slice (some ⟨b, 0, none⟩) N c) out ov := by
  have at_ : ∀ {α : Type} (l : List α) (a : α) (i : Nat), i < l.length → (l.set i a)[i]? = some a := fun l a i hl => by rw [List.getElem?_set, if_pos rfl, if_pos hl]
  have hl : k < ls.length := (List.getElem?_eq_some_iff.1 hk).1
  have hlv : k < vs.length := (List.getElem?_eq_some_iff.1 hv).1
  have h1 := h.execA hk hv
  have h2 := h1.setJob' hN hJ (jb' := { jb with fin := fin }) 3 (by omega) (.int .i64 fin) rfl
  have h2q := h2.qs k _ _ (at_ _ _ _ hl) hv
  simp only [hq] at h2q
  obtain ⟨g', o', cap', e, _, _, _, hqr⟩ := h2q.front
  cases e
  have h3 := h2.setQueue (at_ _ _ _ hl) hv (v' := cutFront g2 qo qr.length cap) (q' := qr) hqr (fun d hd => by
    unfold cutFront at hd
    split at hd <;> simpa [Value.ownBlock] using hd)
  rw [List.set_set] at h3
  have h4 := h3.setLine (ln' := { y with q := qr, left := y.x.c }) (at_ _ _ _ hl) (at_ _ _ _ hlv) 6 (by omega) (.int .i64 y.x.c) rfl rfl
  rw [List.set_set] at h4
  exact h4
end

set_option maxRecDepth 100000 in
set_option maxHeartbeats 4000000 in
theorem simulate_any (A : Option Addr) (n c T : Nat) (l : List Tsk) (w : World) (hA : Rd w w.heap.size A (tcells l)) (hn : l.length = n) (hk : check l = 0) (hu : T ≤ 65536) :
    Calls Try.prog 51 #[.slice A n c, .int .i64 T] w (SimEnd l T w) := by
  obtain ⟨hg, hn8⟩ := good_of_check hk
  rw [hn] at hn8
  have HG := Lib.hid hg
  have HA := Lib.hid hA
  have HN := Lib.hid hn
  have HK := Lib.hid hk
  obtain ⟨i6, hi6, hz60, hz61, hz62⟩ := info_parts info86
  obtain ⟨i4, hi4, hz40, hz41, hz42⟩ := info_parts info40
  obtain ⟨i3, hi3, hz30, hz31, hz32⟩ := info_parts info3
  clear hk hg hA hn
  go_enter Try.func51, Try.ntmps51
  go_wp2_with (at_make; refine wpList_make_full _ rfl _ _ 84 rfl w.heap.size 86 i6 _ 7 Try.underlying84 hi6 hz60 hz61 .i64 .i64 (n : Int) (n : Int) n rfl rfl rfl rfl ?c1 ?c2 ?c3 ?_)
  case c1 => rw [hz62]; omega
  case c2 => unfold maxLen; omega
  case c3 => exact Nat.le_refl _
  intro w1 hown hgrow
  have hbase : w.heap.size < w1.heap.size := (hown.lt w.heap.size rfl).2
  have HS : Hid (Sim w w1 n w.heap.size (initTo l 0) (List.replicate n noQueue) [] noQueue [] noQueue) := by
    refine ⟨(Below.refl _ _).grown hgrow (Nat.le_refl _) (fun k hk => by cases hk), by rw [initTo_length]; exact HN.out, List.length_replicate, ?_, World.ownsRow_nil .., World.ownsRow_nil .., ?_, ?_, ?_⟩
    · have := made_lines l
      rw [HN.out] at this
      rw [← this]
      exact hown
    · intro i ln v hi hv
      rw [initTo_get] at hi
      obtain ⟨x, _, rfl⟩ := Option.map_eq_some_iff.1 hi
      rw [List.getElem?_replicate] at hv
      split at hv
      · cases hv
        simp only [Nat.not_lt_zero, if_false]
        exact QS.nil ..
      · cases hv
    · intro i j v v' h hv _ e _
      rw [List.getElem?_replicate] at hv
      split at hv
      · cases hv; simp [noQueue, Value.ownBlock] at e
      · cases hv
    · intro i v h hv e
      rw [List.getElem?_replicate] at hv
      split at hv
      · cases hv; simp [noQueue, Value.ownBlock] at e
      · cases hv
  clear hown hgrow
  go_wp2
  go_loopw [22] (fun i wr => ∃ k : Nat, k ≤ n ∧ i = .int .i64 k ∧ Sim w wr n w.heap.size (initTo l k) (List.replicate n noQueue) [] noQueue [] noQueue) (fun i _ => n - (intOf i).toNat)
  case atStart => exact ⟨0, Nat.zero_le _, rfl, HS.out⟩
  case round =>
    obtain ⟨k, hk, rfl, hS⟩ := hrel
    have HS2 := Lib.hid hS
    clear HS
    have hs : w.heap.size < wr.heap.size := hS.base_g.2
    by_cases hlt : k < n
    · obtain ⟨x, hx⟩ := getElem?_of_lt (l := l) (k := k) (by rw [HN.out]; exact hlt)
      obtain ⟨b, off, rfl, hbl, c0, c1, c2, c3, c4⟩ := (HA.out.below hS.below (Nat.le_refl _)).tsk hx
      have HX := Lib.hid hx
      have HI0 : Hid ((initTo l k)[k]? = some ⟨zeroTsk, [], 0⟩) := by show _ = _; rw [initTo_get, hx]; simp
      have HV0 : Hid ((List.replicate n noQueue)[k]? = some noQueue) := by show _ = _; rw [List.getElem?_replicate, if_pos hlt]
      have key := fun j hj => own_flat lnCells 7 lnCells_length hS.zlen hS.lines (zip_get HI0.out HV0.out) j hj
      have d0 : wr.cell? ⟨w.heap.size, k * 7, none⟩ = some (.int .i64 0) := key 0 (by omega)
      have d1 : wr.cell? ⟨w.heap.size, k * 7 + 1, none⟩ = some (.int .i64 0) := key 1 (by omega)
      have d2 : wr.cell? ⟨w.heap.size, k * 7 + 2, none⟩ = some (.int .i64 0) := key 2 (by omega)
      have d3 : wr.cell? ⟨w.heap.size, k * 7 + 3, none⟩ = some (.int .i64 0) := key 3 (by omega)
      have d4 : wr.cell? ⟨w.heap.size, k * 7 + 4, none⟩ = some (.int .i64 0) := key 4 (by omega)
      have f0 : wr.frozen? ⟨w.heap.size, k * 7, none⟩ = false := hS.lineFree _
      have f1 : wr.frozen? ⟨w.heap.size, k * 7 + 1, none⟩ = false := hS.lineFree _
      have f2 : wr.frozen? ⟨w.heap.size, k * 7 + 2, none⟩ = false := hS.lineFree _
      have f3 : wr.frozen? ⟨w.heap.size, k * 7 + 3, none⟩ = false := hS.lineFree _
      have f4 : wr.frozen? ⟨w.heap.size, k * 7 + 4, none⟩ = false := hS.lineFree _
      clear key hx hS
      have HNEW : Hid (Sim w (((((wr.setCell ⟨w.heap.size, k * 7, none⟩ (.int .i64 x.p)).setCell ⟨w.heap.size, k * 7 + 1, none⟩ (.int .i64 x.o)).setCell ⟨w.heap.size, k * 7 + 2, none⟩ (.int .i64 x.c)).setCell ⟨w.heap.size, k * 7 + 3, none⟩ (.int .i64 x.d)).setCell ⟨w.heap.size, k * 7 + 4, none⟩ (.int .i64 x.q))
          n w.heap.size (initTo l (k + 1)) (List.replicate n noQueue) [] noQueue [] noQueue) := by
        rw [initTo_step l k x HX.out]
        exact HS2.out.putTask HI0.out HV0.out x
      go_wp2
      go_roundw
      case rel => exact ⟨k + 1, by omega, by go_num, HNEW.out.alloc _⟩
      case measure => simp [intOf]; omega
    · have hkn : k = n := by omega
      subst hkn
      have HS3 : Hid (Sim w wr k w.heap.size (start l) (List.replicate k noQueue) [] noQueue [] noQueue) := by
        have := HS2.out
        rw [initTo_all l k (by rw [HN.out]; exact Nat.le_refl _)] at this
        exact this
      clear HS2 hs hlt hk hbase
      go_wp2
      obtain ⟨wi, rfl⟩ : ∃ wi : World, wi = wr := ⟨_, rfl⟩
      go_loopw [6, 7, 34] (fun o j i wr => ∃ (t : Nat) (vs : List Value), t ≤ T ∧ i = .int .i64 t ∧ Sim w wr k w.heap.size (simTo l t).1 vs (simTo l t).2.1 j (simTo l t).2.2 o) (fun _ _ i _ => T - (intOf i).toNat)
      case atStart => exact ⟨0, _, Nat.zero_le _, rfl, HS3.out⟩
      case round =>
        obtain ⟨t, vs, ht, rfl, hS⟩ := hrel
        by_cases htT : t < T
        · obtain ⟨s, HSX⟩ : ∃ s, Hid (simTo l t = s) := ⟨_, Lib.hid rfl⟩
          have hwf := wf_sim HG.out (by rw [HN.out]; exact hn8) t
          have hol := sim_out_length l t
          rw [HSX.out] at hS hwf hol
          obtain ⟨ls, js, os⟩ := s
          simp only at hS hwf hol
          have HWF := Lib.hid hwf
          have HOL := Lib.hid hol
          have hjl := hwf.jobs_le
          have HLS := Lib.hid hS.lsn
          have HS4 := Lib.hid hS
          clear hwf hol hS HS3
          go_wp2
          obtain ⟨wo, rfl⟩ : ∃ wo : World, wo = wr := ⟨_, rfl⟩
          go_loopw [7, 12, 39] (fun j r i wr => ∃ (m : Nat) (vs : List Value), m ≤ k ∧ i = .int .i64 m ∧ r = .int .i64 (pickTo (relTo t ls js m).1 m) ∧ Sim w wr k w.heap.size (relTo t ls js m).1 vs (relTo t ls js m).2 j os u6) (fun _ _ i _ => k - (intOf i).toNat)
          case atStart => exact ⟨0, vs, Nat.zero_le _, rfl, rfl, HS4.out⟩
          case round =>
            obtain ⟨m, vs', hm, rfl, hr, hS⟩ := hrel
            by_cases hlt : m < k
            · obtain ⟨ln, hln⟩ := getElem?_of_lt (l := ls) (k := m) (by rw [HLS.out]; exact hlt)
              have hstep := relTo_step t ls js m ln hln
              have hlater := relTo_later t ls js m m (Nat.le_refl _)
              rw [hln] at hlater
              obtain ⟨hwfm, hjm⟩ := wf_relTo HWF.out HG.out (by rw [HN.out]; exact hn8) t m (by omega)
              obtain ⟨rp, HRP⟩ : ∃ rp, Hid (relTo t ls js m = rp) := ⟨_, Lib.hid rfl⟩
              rw [HRP.out] at hS hstep hlater hwfm hjm hr
              obtain ⟨la, ja⟩ := rp
              simp only at hS hstep hlater hwfm hjm hr
              have hb := hwfm.bad HG.out hlater
              obtain ⟨v, hv⟩ := hS.v_of hlt
              obtain ⟨c0, c1, c2, c4, c5, c6⟩ := hS.line hlater hv
              have f5 : wr.frozen? ⟨w.heap.size, m * 7 + 5, none⟩ = false := hS.lineFree _
              have f6 : wr.frozen? ⟨w.heap.size, m * 7 + 6, none⟩ = false := hS.lineFree _
              have HS5 := Lib.hid hS
              have HST := Lib.hid hstep
              have HLT := Lib.hid hlater
              have HV := Lib.hid hv
              have HWM := Lib.hid hwfm
              have hbase := hS.base_g
              have hpr := pickTo_range la m
              obtain ⟨pm, HPM⟩ : ∃ pm, Hid (pickTo la m = pm) := ⟨_, Lib.hid rfl⟩
              rw [HPM.out] at hr hpr
              subst hr
              simp only [Tsk.bad, not_or, Int.not_lt] at hb
              obtain ⟨hb1, hb2, hb3, hb4, hb5, hb6, hb7⟩ := hb
              clear hS hstep hlater hv hwfm hln
              by_cases hd : due t ln.x
              focus
                obtain ⟨Aj, cj, rfl, hj1, hj2, _⟩ := own_form HS5.out.jobs_
                have HR2 : Hid (relTo t ls js (m + 1) = (la.set m (relOne ja.length ln), ja ++ [⟨m, t, -1, -1⟩])) := by
                  have := HST.out
                  rw [if_pos hd] at this
                  exact this
                have hd1 : decide (ln.x.o ≤ (t : Int)) = true := by simp [hd.1]
                have hd2 : (((t : Int) - ln.x.o) % ln.x.p == 0) = true := by rw [hd.2]; rfl
                have hd3 : (((t : Int) - ln.x.o).tmod ln.x.p == 0) = true := by rw [mod_test _ _ _ (by have := hd.1; omega), hd.2]; rfl
                have hsh := HWM.out.short m ln HLT.out
                clear HST
                go_wp2
                go_quiet (fail)
                have HS6 : Hid (Sim w (wr.drewN nq) k w.heap.size la vs' ja (.slice Aj ja.length cj) os u6) := HS5.out.drewN nq
                have c2' : (wr.drewN nq).cell? ⟨w.heap.size, m * 7 + 2, none⟩ = some (.int .i64 ln.x.c) := c2
                have c5' : (wr.drewN nq).cell? ⟨w.heap.size, m * 7 + 5, none⟩ = some v := c5
                have c6' : (wr.drewN nq).cell? ⟨w.heap.size, m * 7 + 6, none⟩ = some (.int .i64 ln.left) := c6
                have f5' : (wr.drewN nq).frozen? ⟨w.heap.size, m * 7 + 5, none⟩ = false := f5
                have f6' : (wr.drewN nq).frozen? ⟨w.heap.size, m * 7 + 6, none⟩ = false := f6
                clear c0 c1 c2 c4 c5 c6 f5 f6 HS5
                generalize wr.drewN nq = W1 at *
                go_wp2_with (fail)
                with_reducible refine (release_any w.heap.size (m * 7) w.heap.size ln.x.c ln.left (ja.length : Int) v ln.q W1 (HS6.out.qs m ln v HLT.out HV.out) HS6.out.below.size (by omega) (HS6.out.ne_g HLT.out HV.out) c2' c5' c6' f5' f6').mono ?_
                intro e w2 hR
                obtain ⟨rfl, v2, hS7⟩ := Sim.afterRelease HS6.out HLT.out HV.out hR
                have HS7 := Lib.hid hS7
                clear hS7 hR c2' c5' c6' f5' f6' HS6
                go_wp2_with (at_builtin; refine wpList_append_own _ rfl _ _ 36 rfl w.heap.size 40 i4 _ 4 32 Try.underlying36 hi4 hz40 hz41 hz42 rfl (by omega) _ _ _ rfl (HS7.out.jobs_.alloc _) ⟨w2.heap.size, 0, none⟩ 1 1 (Jb.cells ⟨m, t, -1, -1⟩) rfl rfl (cells_new w2 _ _ _ rfl) (jb_one _) ?c3 ?c4 ?c5 ?_)
                case c3 => unfold maxLen; omega
                case c4 => omega
                case c5 => have := HS7.out.below.size; simp; omega
                intro v' w3 hown3 hgrow3 _
                have HS8 : Hid (Sim w w3 k w.heap.size (la.set m (relOne ja.length ln)) (vs'.set m v2) (ja ++ [⟨m, t, -1, -1⟩]) v' os u6) := Lib.hid ((HS7.out.alloc _).addJob hgrow3 hown3)
                have HLT2 : Hid ((la.set m (relOne ja.length ln))[m]? = some (relOne ja.length ln)) := by
                  show _ = _
                  rw [List.getElem?_set, if_pos rfl, if_pos (List.getElem?_eq_some_iff.1 HLT.out).1]
                have HV2 : Hid ((vs'.set m v2)[m]? = some v2) := by
                  show _ = _
                  rw [List.getElem?_set, if_pos rfl, if_pos (List.getElem?_eq_some_iff.1 HV.out).1]
                have HPM2 : Hid (pickTo (la.set m (relOne ja.length ln)) m = pm) := by
                  rw [← HPM.out]
                  exact pickTo_congr _ _ m (fun i hi => by rw [List.getElem?_set, if_neg (by omega)])
                clear hown3 hgrow3 HS7 HLT HV HPM HRP HWM
                generalize la.set m (relOne ja.length ln) = la2 at *
                generalize ja ++ [(⟨m, t, -1, -1⟩ : Jb)] = ja2 at *
                generalize vs'.set m v2 = vs2 at *
                generalize relOne ja.length ln = ln2 at *
                go_wp2
              rotate_left
              focus
                have HR2 : Hid (relTo t ls js (m + 1) = (la, ja)) := by
                  have := HST.out
                  rw [if_neg hd] at this
                  exact this
                by_cases hto : ln.x.o ≤ (t : Int)
                focus
                  have hd1 : decide (ln.x.o ≤ (t : Int)) = true := by simp [hto]
                  have hd2 : (((t : Int) - ln.x.o) % ln.x.p == 0) = false := by
                    simp only [beq_eq_false_iff_ne]
                    exact fun e => hd ⟨hto, e⟩
                  clear HST
                  go_wp2
                  go_quiet (fail)
                  go_wp2
                rotate_left
                focus
                  have hd1 : decide (ln.x.o ≤ (t : Int)) = false := by simp; omega
                  clear HST
                  go_wp2
                  go_quiet (fail)
                  go_wp2
                all_goals
                  have HS8 : Hid (Sim w (wr.drewN nq) k w.heap.size la vs' ja u7 os u6) := HS5.out.drewN nq
                  clear c0 c1 c2 c4 c5 c6 f5 f6 HS5
                  obtain ⟨la2, rfl⟩ : ∃ x, x = la := ⟨_, rfl⟩
                  obtain ⟨ja2, rfl⟩ : ∃ x, x = ja := ⟨_, rfl⟩
                  obtain ⟨vs2, rfl⟩ : ∃ x, x = vs' := ⟨_, rfl⟩
                  obtain ⟨ln2, rfl⟩ : ∃ x, x = ln := ⟨_, rfl⟩
                  obtain ⟨v2, rfl⟩ : ∃ x, x = v := ⟨_, rfl⟩
                  have HPM2 := HPM
                  have HLT2 := HLT
                  have HV2 := HV
                  clear HPM HLT HV
                  generalize wr.drewN nq = w3 at *
              all_goals
                have hpl := pick_step la2 m ln2 HLT2.out
                rw [HPM2.out] at hpl
                have HPS := Lib.hid hpl
                clear hpl
                obtain ⟨A2, cq2, rfl, hq1, hq2⟩ := (HS8.out.qs m ln2 v2 HLT2.out HV2.out).form
                obtain ⟨e0, e1, e2, e4, e5, e6⟩ := HS8.out.line HLT2.out HV2.out
                have hbs := HS8.out.base_g
                by_cases hq0 : ln2.q = []
                · have HE : Hid (pickTo la2 (m + 1) = pm) := by rw [HPS.out, if_neg (fun h => h.1 hq0)]; exact rfl
                  rw [hq0, List.length_nil] at e5
                  clear hq0 HPS
                  go_quiet (fail)
                  go_wp2
                  go_roundw
                  case rel => exact ⟨m + 1, vs2, by omega, by go_num, by rw [HR2.out, HE.out], by rw [HR2.out]; exact HS8.out.drewN _⟩
                  case measure => simp [intOf]; omega
                · have hl0 := List.length_pos_iff.2 hq0
                  generalize ln2.q.length = lq at *
                  by_cases hp : pm < 0
                  · have HE : Hid (pickTo la2 (m + 1) = m) := by rw [HPS.out, if_pos ⟨hq0, .inl hp⟩]; exact rfl
                    have hp1 : decide (pm < 0) = true := by simp [hp]
                    clear hq0 HPS
                    go_quiet (fail)
                    go_wp2
                    go_roundw
                    case rel => exact ⟨m + 1, vs2, by omega, by go_num, by rw [HR2.out, HE.out], by rw [HR2.out]; exact HS8.out.drewN _⟩
                    case measure => simp [intOf]; omega
                  · have hp1 : decide (pm < 0) = false := by simp; omega
                    obtain ⟨pn, rfl⟩ : ∃ x : Nat, pm = x := ⟨pm.toNat, by omega⟩
                    have hpk : pn < k := by omega
                    obtain ⟨y, hy⟩ := getElem?_of_lt (l := la2) (k := pn) (by rw [HS8.out.lsn]; exact hpk)
                    obtain ⟨vy, hvy⟩ := HS8.out.v_of hpk
                    obtain ⟨_, _, _, g4, _, _⟩ := HS8.out.line hy hvy
                    have HY := Lib.hid hy
                    clear hy hvy
                    by_cases hlq : ln2.x.q < y.x.q
                    · have HE : Hid (pickTo la2 (m + 1) = m) := by
                        rw [HPS.out, if_pos ⟨hq0, .inr fun z hz => by rw [Int.toNat_natCast, HY.out] at hz; cases hz; exact hlq⟩]
                        exact rfl
                      have hp2 : decide (ln2.x.q < y.x.q) = true := by simp [hlq]
                      clear hq0 HPS
                      go_quiet (fail)
                      go_wp2
                      go_roundw
                      case rel => exact ⟨m + 1, vs2, by omega, by go_num, by rw [HR2.out, HE.out], by rw [HR2.out]; exact HS8.out.drewN _⟩
                      case measure => simp [intOf]; omega
                    · have HE : Hid (pickTo la2 (m + 1) = pn) := by
                        rw [HPS.out, if_neg]
                        · exact rfl
                        · rintro ⟨_, h | h⟩
                          · exact hp h
                          · exact hlq (h y (by rw [Int.toNat_natCast]; exact HY.out))
                      have hp2 : decide (ln2.x.q < y.x.q) = false := by simp; omega
                      clear hq0 HPS
                      go_quiet (fail)
                      go_wp2
                      go_roundw
                      case rel => exact ⟨m + 1, vs2, by omega, by go_num, by rw [HR2.out, HE.out], by rw [HR2.out]; exact HS8.out.drewN _⟩
                      case measure => simp [intOf]; omega
            · have hmk : m = k := by omega
              subst hmk
              obtain ⟨hwfm, hjm⟩ := wf_relTo HWF.out HG.out (by rw [HN.out]; exact hn8) t m (by omega)
              obtain ⟨rp, HRP⟩ : ∃ rp, Hid (relTo t ls js m = rp) := ⟨_, Lib.hid rfl⟩
              rw [HRP.out] at hS hwfm hjm hr
              obtain ⟨la, ja⟩ := rp
              simp only at hS hwfm hjm hr
              have hpr := pickTo_range la m
              obtain ⟨pm, HPM⟩ : ∃ pm, Hid (pickTo la m = pm) := ⟨_, Lib.hid rfl⟩
              rw [HPM.out] at hr hpr
              subst hr
              have HNX := Lib.hid (sim_next HSX.out HLS.out HRP.out HPM.out)
              have HWM := Lib.hid hwfm
              have HS5 := Lib.hid hS
              have hbase := hS.base_g
              clear hS hwfm hlt hm HS4
              go_wp2_with (at_builtin; refine wpList_append_own_at _ rfl _ _ 29 rfl w.heap.size 3 i3 (.int .i64 0) 1 8 Try.underlying29 hi3 hz30 hz31 hz32 rfl (by omega) _ _ _ rfl (HS5.out.out_.alloc _) ⟨wr.heap.size, 0, none⟩ 1 1 [.int .i64 pm] rfl rfl ?c1 ?c2 ?c3 ?c4 ?c5 ?_)
              case c1 => exact cell_one_new _ _ _
              case c2 => simp [Value.oneCell']
              case c3 => rw [HOL.out]; unfold maxLen; omega
              case c4 => rw [HOL.out]; omega
              case c5 => simp; omega
              intro v' w3 hown3 hgrow3 _ hat
              have HS8 : Hid (Sim w w3 m w.heap.size la vs' ja u7 (os ++ [pm]) v') := Lib.hid ((HS5.out.alloc _).addOut hgrow3 hown3 (by simpa using hat))
              clear hown3 hgrow3 HS5 hat
              have hbs := HS8.out.base_g
              by_cases hp : pm < 0
              · have HT : Hid (simTo l (t + 1) = (la, ja, os ++ [pm])) := by
                  have := HNX.out
                  rw [if_pos hp] at this
                  exact this
                have hp1 : decide (pm < 0) = true := by simp [hp]
                clear HNX
                go_wp2
                go_roundw
                case rel => exact ⟨t + 1, vs', by omega, by go_num, by rw [HT.out]; exact HS8.out⟩
                case measure => simp [intOf]; omega
              · have hp1 : decide (pm < 0) = false := by simp; omega
                have hph := pickTo_has la m (by rw [HPM.out]; omega)
                obtain ⟨pn, rfl⟩ : ∃ x : Nat, pm = x := ⟨pm.toNat, by omega⟩
                rw [HPM.out, Int.toNat_natCast] at hph
                obtain ⟨y, hy, hyq⟩ := hph
                obtain ⟨q0, qr, hqe⟩ := List.exists_cons_of_ne_nil hyq
                have hpk : pn < m := by omega
                obtain ⟨vy, hvy⟩ := HS8.out.v_of hpk
                have hqy := HWM.out.queue pn y hy q0 (by rw [hqe]; exact List.mem_cons_self)
                obtain ⟨J, rfl⟩ : ∃ x : Nat, q0 = x := ⟨q0.toNat, by omega⟩
                obtain ⟨jb, hjb⟩ := getElem?_of_lt (l := ja) (k := J) (by omega)
                have hqs := HS8.out.qs pn y vy hy hvy
                rw [hqe] at hqs
                obtain ⟨g2, qo, cap, rfl, hcap, hcap2, q1, hqrest⟩ := hqs.front
                obtain ⟨b, cj, rfl, hbg, j0, j2, j3, jf⟩ := HS8.out.job hjb
                obtain ⟨e0, e1, e2, e4, e5, e6⟩ := HS8.out.line hy hvy
                have hsh := HWM.out.short pn y hy
                have hll := HWM.out.left_le pn y hy
                have hlp := HWM.out.left_pos pn y hy hyq
                have hbad := HWM.out.bad HG.out hy
                simp only [Tsk.bad, not_or, Int.not_lt] at hbad
                obtain ⟨hb1, hb2, hb3, hb4, hb5, hb6, hb7⟩ := hbad
                have HY := Lib.hid hy
                have HVY := Lib.hid hvy
                have HJB := Lib.hid hjb
                have HQE := Lib.hid hqe
                have hf2 := jf (J * 4 + 2)
                have hf3 := jf (J * 4 + 3)
                have hl5 : w3.frozen? ⟨w.heap.size, pn * 7 + 5, none⟩ = false := HS8.out.lineFree _
                have hl6 : w3.frozen? ⟨w.heap.size, pn * 7 + 6, none⟩ = false := HS8.out.lineFree _
                have HX := HNX.out
                rw [if_neg hp, Int.toNat_natCast, execAt_eq t la ja pn J y qr jb hy hqe hjb] at HX
                have HX := Lib.hid HX
                have hat_ : ∀ a : Jb, (ja.set J a)[J]? = some a := fun a => by rw [List.getElem?_set, if_pos rfl, if_pos (List.getElem?_eq_some_iff.1 hjb).1]
                have HAT := Lib.hid hat_
                rw [hqe, List.length_cons] at hsh
                clear hy hvy hjb hqe hqs hqrest HNX HPM HRP hyq jf hat_
                have hgb : w.heap.size ≠ b := fun e => hbg e.symm
                by_cases hst : jb.st < 0 <;> by_cases hlf : y.left - 1 = 0
                · have hd1 : decide (jb.st < 0) = true := by simp [hst]
                  have hd2 : (y.left - 1 == 0) = true := by simp [hlf]
                  have HXX := HX.out
                  rw [if_pos hlf, if_pos hst] at HXX
                  have HXX := Lib.hid HXX
                  have H1 := HS8.out.setJob' rfl HJB.out (jb' := { jb with st := t }) 2 (by omega) (.int .i64 t) rfl
                  have H2 := H1.execB List.length_set HY.out HVY.out HQE.out (HAT.out _) (t + 1)
                  rw [List.set_set, hlf] at H2
                  have HF := Lib.hid H2
                  clear H1 H2 HX
                  by_cases hc1 : cap = 1
                  · have HFF := HF.out
                    unfold cutFront at HFF
                    rw [if_pos hc1] at HFF
                    have HFF := Lib.hid HFF
                    clear HF
                    go_wp2
                    go_roundw
                    case rel => exact ⟨t + 1, _, by omega, by go_num, by rw [HXX.out]; exact HFF.out⟩
                    case measure => simp [intOf]; omega
                  · have HFF := HF.out
                    unfold cutFront at HFF
                    rw [if_neg hc1] at HFF
                    have HFF := Lib.hid HFF
                    clear HF
                    go_wp2
                    go_roundw
                    case rel => exact ⟨t + 1, _, by omega, by go_num, by rw [HXX.out]; exact HFF.out⟩
                    case measure => simp [intOf]; omega
                · have hd1 : decide (jb.st < 0) = true := by simp [hst]
                  have hd2 : (y.left - 1 == 0) = false := by simp [hlf]
                  have HXX := HX.out
                  rw [if_neg hlf, if_pos hst] at HXX
                  have HXX := Lib.hid HXX
                  have H1 := HS8.out.setJob' rfl HJB.out (jb' := { jb with st := t }) 2 (by omega) (.int .i64 t) rfl
                  have HFF := Lib.hid (H1.execA HY.out HVY.out)
                  clear H1 HX
                  go_wp2
                  go_roundw
                  case rel => exact ⟨t + 1, _, by omega, by go_num, by rw [HXX.out]; exact HFF.out⟩
                  case measure => simp [intOf]; omega
                · have hd1 : decide (jb.st < 0) = false := by simp; omega
                  have hd2 : (y.left - 1 == 0) = true := by simp [hlf]
                  have HXX := HX.out
                  rw [if_pos hlf, if_neg hst] at HXX
                  have HXX := Lib.hid HXX
                  have H2 := HS8.out.execB rfl HY.out HVY.out HQE.out HJB.out (t + 1)
                  rw [hlf] at H2
                  have HF := Lib.hid H2
                  clear H2
                  clear HX
                  by_cases hc1 : cap = 1
                  · have HFF := HF.out
                    unfold cutFront at HFF
                    rw [if_pos hc1] at HFF
                    have HFF := Lib.hid HFF
                    clear HF
                    go_wp2
                    go_roundw
                    case rel => exact ⟨t + 1, _, by omega, by go_num, by rw [HXX.out]; exact HFF.out⟩
                    case measure => simp [intOf]; omega
                  · have HFF := HF.out
                    unfold cutFront at HFF
                    rw [if_neg hc1] at HFF
                    have HFF := Lib.hid HFF
                    clear HF
                    go_wp2
                    go_roundw
                    case rel => exact ⟨t + 1, _, by omega, by go_num, by rw [HXX.out]; exact HFF.out⟩
                    case measure => simp [intOf]; omega
                · have hd1 : decide (jb.st < 0) = false := by simp; omega
                  have hd2 : (y.left - 1 == 0) = false := by simp [hlf]
                  have HXX := HX.out
                  rw [if_neg hlf, if_neg hst] at HXX
                  have e : ja.set J { jb with st := jb.st } = ja := set_self ja J _ HJB.out
                  rw [e] at HXX
                  have HXX := Lib.hid HXX
                  have HFF := Lib.hid (HS8.out.execA HY.out HVY.out)
                  clear HX e
                  go_wp2
                  go_roundw
                  case rel => exact ⟨t + 1, _, by omega, by go_num, by rw [HXX.out]; exact HFF.out⟩
                  case measure => simp [intOf]; omega
        · have htt : t = T := by omega
          subst htt
          have hol := sim_out_length l t
          obtain ⟨A1, c1, e1, h11, h12, h13⟩ := own_read hS.out_
          obtain ⟨A2, c2, e2, h21, h22, h23⟩ := own_read hS.jobs_
          rw [hol] at e1 h11
          subst e1 e2
          have HE : Hid (SimEnd l t w (.returned (.tuple #[.slice A1 t c1, .slice A2 (simTo l t).2.1.length c2])) wr) :=
            ⟨A1, c1, A2, c2, rfl, h11, h12, h21, h22, h13, h23, hS.below⟩
          clear hS h11 h12 h21 h22 h13 h23 hol HS3
          go_wp2
          go_ret2
          exact HE.out
end Go.Proofs.Ytcfhnjdaijdoiaa
