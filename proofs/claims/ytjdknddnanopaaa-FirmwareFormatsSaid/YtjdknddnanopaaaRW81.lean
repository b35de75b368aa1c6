
/-
  The reference of layer 51: Begin, where a record is begun.
-/
import Derived.Test.YtjdknddnanopaaaRW80
namespace Go.Proofs.Ytjdknddnanopaaa
open Go.RowKit
set_option linter.unusedVariables false
set_option linter.unusedSimpArgs false
/-- Where the next record goes. -/
def PlO (s : St) (g : Fl) (nb ns : Nat) (er : Int) : Prop :=
  (freeS s g = some ns ∧ nb = s.block ∧ er = -1) ∨ (freeS s g = none ∧ nb = (s.block + 1) % s.blocks ∧ ns = 0 ∧ er = if blankN g (pageS s g nb 0) g.pg = true then -1 else ((s.first + nb : Nat) : Int))
/-- The boxes, and the record that is to be written. -/
structure Bg (X : Nat → Prop) (w wr : World) (l f : Array Value) (Q8 : Option Addr) (vs : List Int) (Q9 : Option Addr) (ps : List (List Int)) : Prop where
  z : Hz w wr l f
  v : RdX (X3 X w.heap.size) wr Q8 (icells vs)
  p : RdP (X3 X w.heap.size) wr Q9 ps
section
variable {X : Nat → Prop} {w wr w' : World} {l f : Array Value} {Q8 Q9 : Option Addr} {vs : List Int} {ps : List (List Int)}
theorem Bg.later (h : Bg X w wr l f Q8 vs Q9 ps) (hb : Below wr.heap.size wr w') : Bg X w w' l f Q8 vs Q9 ps := ⟨h.z.later hb, h.v.below hb, h.p.below hb⟩
theorem Bg.set (h : Bg X w wr l f Q8 vs Q9 ps) (i : Nat) (v : Value) : Bg X w (wr.setCell ⟨w.heap.size, i, none⟩ v) (l.setIfInBounds i v) f Q8 vs Q9 ps :=
  ⟨h.z.set i v, h.v.onlyX (OnlyX.set wr ⟨w.heap.size, i, none⟩ v (x30 _ _)), h.p.onlyX (OnlyX.set wr ⟨w.heap.size, i, none⟩ v (x30 _ _))⟩
theorem Bg.fin1 (h : Bg X w wr l f Q8 vs Q9 ps) (cs : Array Value) : RdX X (wr.setRow (w.heap.size + 2) cs) Q8 (icells vs) := (h.v.onlyX (OnlyX.row wr (w.heap.size + 2) cs (x32 _ _))).weak (fun _ => .inl)
theorem Bg.fin2 (h : Bg X w wr l f Q8 vs Q9 ps) (cs : Array Value) : RdP X (wr.setRow (w.heap.size + 2) cs) Q9 ps := (h.p.onlyX (OnlyX.row wr (w.heap.size + 2) cs (x32 _ _))).newX (fun _ _ => .inl)
end
set_option maxRecDepth 100000 in
set_option maxHeartbeats 8000000 in
theorem begin_ro {X : Nat → Prop} (w : World) (q : Qv) (s : St) (x : Rc) (g : Fl) (n c5 : Nat) (hA : RdX X w q.Q2 (icells s.staged)) (hB : RdX X w q.Q3 (icells s.saved)) (htl : s.staged.length = n) (hsl : s.saved.length = n) (hR : RAt X w x g) (hX : ∀ b, X b → b < w.heap.size) (hd : g.down = false) (ho : StOk g s) (hsp : s.spec.length = n) (hne : s.staged ≠ s.saved) (henc : encE (s.seq + 1) n = 0) (hnc : n ≤ q.c2) (hcm : q.c2 ≤ maxLen) :
    Calls Try.prog 113 #[.agg #[Value.int .i64 s.first, .int .i64 s.blocks, .slice q.Q1 n q.c1, .slice q.Q2 n q.c2, .slice q.Q3 n q.c3, .int .i64 s.seq, .int .i64 s.block, .int .i64 s.slot, .slice q.Q4 q.n4 q.c4, .slice q.Q5 0 c5, .int .i64 q.pg, .int .i64 q.er, .int .i64 q.nb, .int .i64 q.ns, .bool false], .agg #[Value.slice x.A g.img.length x.c, .int .i64 g.pg, .slice x.B g.wear.length x.d, .bool false, .int .i64 g.fuse, .slice x.P g.picks.length x.r]] w fun e w' => ∃ (Q8 : Option Addr) (c8 : Nat) (Q9 : Option Addr) (c9 nb ns : Nat) (er : Int), e = .returned (.tuple #[.agg #[Value.int .i64 s.first, .int .i64 s.blocks, .slice q.Q1 n q.c1, .slice q.Q2 n q.c2, .slice q.Q3 n q.c3, .int .i64 s.seq, .int .i64 s.block, .int .i64 s.slot, .slice Q8 n c8, .slice Q9 (pgs n) c9, .int .i64 (((s.first + nb) * g.pg + ns * pgs n : Nat) : Int), .int .i64 er, .int .i64 (nb : Int), .int .i64 (ns : Int), .bool false], .int .i64 0]) ∧ Below w.heap.size w w' ∧ RdX X w' Q8 (icells s.staged) ∧ RdP X w' Q9 (encP (s.seq + 1) s.staged) ∧ n ≤ c8 ∧ c8 ≤ maxLen ∧ pgs n ≤ c9 ∧ c9 ≤ maxLen ∧ PlO s g nb ns er := by
  have hn1 := ho.n1
  have hn48 := ho.n2
  rw [hsp] at hn1 hn48
  have hp16 := hR.ok.p2
  have hw64 := hR.ok.b2
  have hpg1 := hR.ok.p1
  have hfb := ho.fb
  have hbl := ho.bl
  have hb2 := ho.b1
  have hb16 := ho.b2
  have hs1 := ho.s1
  have hs2 := ho.s2
  have hkp := ho.kp
  have hq1 := ho.q1
  obtain ⟨_, hq2, _, _⟩ := encE_zero henc
  obtain ⟨K, hK⟩ : ∃ K, pgs n = K := ⟨_, rfl⟩
  have hkK : s.k = K := by unfold St.k; rw [hsp]; exact hK
  have hK1 : 1 ≤ K := by rw [← hK]; exact pgs_pos hn1
  have hK8 : K ≤ 8 := by rw [← hK]; exact pgs_le hn48
  obtain ⟨T, hT⟩ : ∃ T, g.pg / K = T := ⟨_, rfl⟩
  have hTs : slotsS s g = T := by unfold slotsS; rw [hkK]; exact hT
  rw [hTs] at hs2
  rw [hkK] at hkp
  have hT16 : T ≤ 16 := by rw [← hT]; exact Nat.le_trans (Nat.div_le_self _ _) hp16
  have tq : (g.pg : Int).tdiv (K : Int) = (T : Int) := by rw [Int.tdiv_eq_ediv_of_nonneg (by omega), ← hT]; push_cast; rfl
  have tq2 : (g.pg : Int) / (K : Int) = (T : Int) := by rw [← hT]; push_cast; rfl
  have hPS : ∀ b t, pageS s g b t = (s.first + b) * g.pg + t * K := fun b t => by unfold pageS; rw [hkK]
  have HPS := Lib.hid hPS
  have HPI : Hid (∀ t, t < T → (s.first + s.block) * g.pg + t * K + K ≤ g.wear.length * g.pg) := fun t ht => by
    have := ho.page_in (b := s.block) (j := t) ho.bl (by rw [hTs]; exact ht)
    rw [hPS, hkK] at this
    exact this
  have HFV : Hid (∀ (w' : World) (b t : Nat), b ≤ 64 → t ≤ 64 → ∀ (c1 : Nat) (u1 u3 u4 u5 u6 u7 u8 u9 u10 u11 u12 u13 : Value), Calls Try.prog 104 #[.agg #[.int .i64 (s.first : Int), u1, .slice q.Q1 n c1, u3, u4, u5, u6, u7, u8, u9, u10, u11, u12, u13, .bool false], .agg #[Value.slice x.A g.img.length x.c, .int .i64 g.pg, .slice x.B g.wear.length x.d, .bool false, .int .i64 g.fuse, .slice x.P g.picks.length x.r], .int .i64 (b : Int), .int .i64 (t : Int)] w' fun e w'' => e = .returned (.int .i64 (((s.first + b) * g.pg + t * K : Nat) : Int)) ∧ Below w'.heap.size w' w'') := by
    intro w' b t hb ht c1 u1 u3 u4 u5 u6 u7 u8 u9 u10 u11 u12 u13
    have h := first_v x g s.first q.Q1 n c1 u1 u3 u4 u5 u6 u7 u8 u9 u10 u11 u12 u13 (.bool false) b t w' (by omega) hb ht hn48 hp16
    unfold Rc.v at h
    rw [hd, hK] at h
    exact h
  have HF0 : Hid (∀ (w' : World) (b : Nat), b ≤ 64 → ∀ (c1 : Nat) (u1 u3 u4 u5 u6 u7 u8 u9 u10 u11 u12 u13 : Value), Calls Try.prog 104 #[.agg #[.int .i64 (s.first : Int), u1, .slice q.Q1 n c1, u3, u4, u5, u6, u7, u8, u9, u10, u11, u12, u13, .bool false], .agg #[Value.slice x.A g.img.length x.c, .int .i64 g.pg, .slice x.B g.wear.length x.d, .bool false, .int .i64 g.fuse, .slice x.P g.picks.length x.r], .int .i64 (b : Int), .int .i64 0] w' fun e w'' => e = .returned (.int .i64 (((s.first + b) * g.pg + 0 * K : Nat) : Int)) ∧ Below w'.heap.size w' w'') :=
    fun w' b hb c1 u1 u3 u4 u5 u6 u7 u8 u9 u10 u11 u12 u13 => HFV.out w' b 0 hb (by omega) c1 u1 u3 u4 u5 u6 u7 u8 u9 u10 u11 u12 u13
  have HBL : Hid (∀ (w' : World), Below w.heap.size w w' → ∀ a m : Nat, 1 ≤ m → a + m ≤ g.wear.length * g.pg → Calls Try.prog 133 #[.agg #[Value.slice x.A g.img.length x.c, .int .i64 g.pg, .slice x.B g.wear.length x.d, .bool false, .int .i64 g.fuse, .slice x.P g.picks.length x.r], .int .i64 (a : Int), .int .i64 (m : Int)] w' fun e w'' => e = .returned (.bool (blankN g a m)) ∧ Below w'.heap.size w' w'') := by
    intro w' hb a m h1 h2
    have h := blank_r (hR.below hb) a m h1 h2
    unfold Rc.v at h
    rw [hd] at h
    exact h
  have HOK := Lib.hid ho
  have HXX := Lib.hid hX
  have HNE := Lib.hid hne
  have HENC := Lib.hid henc
  have HKK := Lib.hid hK
  have HkK := Lib.hid hkK
  have HTs := Lib.hid hTs
  have HKL : Hid ((icells s.staged).length = n * 1) := by rw [Hid, icells_length, htl]; omega
  obtain ⟨i3, hi3, hz30, hz31, hz32⟩ := info_parts info3
  have hm0 : 0 ≤ maxLen := Nat.zero_le _
  have hcm' := hcm
  unfold maxLen at hcm'
  clear hR hX hd ho hsp hne henc hPS hK hkK hTs hT hcm
  rw [HKK.out]
  obtain ⟨W, hW⟩ : ∃ W, ((w.alloc (.cells #[Value.int .i64 s.first, .int .i64 s.blocks, .slice q.Q1 n q.c1, .slice q.Q2 n q.c2, .slice q.Q3 n q.c3, .int .i64 s.seq, .int .i64 s.block, .int .i64 s.slot, .slice q.Q4 q.n4 q.c4, .slice q.Q5 0 c5, .int .i64 q.pg, .int .i64 q.er, .int .i64 q.nb, .int .i64 q.ns, .bool false] 46)).alloc (.cells #[Value.slice x.A g.img.length x.c, .int .i64 g.pg, .slice x.B g.wear.length x.d, .bool false, .int .i64 g.fuse, .slice x.P g.picks.length x.r] 37)).alloc (.cells #[.int .i64 0, .int .i64 0, .slice none 0 0, .slice none 0 0, .slice none 0 0, .int .i64 0, .int .i64 0, .int .i64 0, .slice none 0 0, .slice none 0 0, .int .i64 0, .int .i64 0, .int .i64 0, .int .i64 0, .bool false] 46) = W := ⟨_, rfl⟩
  have HZ := Lib.hid (Hz.new hW.symm ⟨_, rfl, rfl⟩)
  have HA := Lib.hid hA
  have HB := Lib.hid hB
  have HTL := Lib.hid htl
  have HSL := Lib.hid hsl
  have r14 := HZ.out.row 14 rfl
  have r9 := HZ.out.row 9 rfl
  have f3 := HZ.out.frow 3 rfl
  have r3 := HZ.out.row 3 rfl
  clear hA hB htl hsl
  go_enter Try.func113, Try.ntmps113
  go_upto_region 8 with (fail)
  try rw [hW]
  clear hW r14 r9 f3 r3
  go_loopw [6, 7, 26] (fun b i7 i wr => ∃ k : Nat, k ≤ n ∧ i = .int .i64 k ∧ b = .bool (sameB s.staged s.saved k) ∧ Hz w wr #[Value.int .i64 s.first, .int .i64 s.blocks, .slice q.Q1 n q.c1, .slice q.Q2 n q.c2, .slice q.Q3 n q.c3, .int .i64 s.seq, .int .i64 s.block, .int .i64 s.slot, .slice q.Q4 q.n4 q.c4, .slice q.Q5 0 c5, .int .i64 q.pg, .int .i64 q.er, .int .i64 q.nb, .int .i64 q.ns, .bool false] #[Value.slice x.A g.img.length x.c, .int .i64 g.pg, .slice x.B g.wear.length x.d, .bool false, .int .i64 g.fuse, .slice x.P g.picks.length x.r]) (fun _ _ i _ => n - (intOf i).toNat)
  case atStart => exact ⟨0, Nat.zero_le _, rfl, rfl, HZ.out⟩
  case round =>
    obtain ⟨k, hk, rfl, rfl, hz⟩ := hrel
    have HZR := Lib.hid hz
    clear hz
    by_cases hlt : k < n
    · obtain ⟨a, ha⟩ := getElem?_of_lt (l := s.staged) (k := k) (by rw [HTL.out]; exact hlt)
      obtain ⟨b, hb⟩ := getElem?_of_lt (l := s.saved) (k := k) (by rw [HSL.out]; exact hlt)
      have HST := Lib.hid (sameB_step ha hb)
      obtain ⟨ba, oa, e1, _, c0⟩ := ((HA.out.below HZR.out.below).rd).int ha
      obtain ⟨bb, ob, e2, _, c1⟩ := ((HB.out.below HZR.out.below).rd).int hb
      have r3 := HZR.out.row 3 rfl
      have r4 := HZR.out.row 4 rfl
      rw [e1] at r3
      rw [e2] at r4
      clear ha hb e1 e2
      have hkn : decide (n ≤ k) = false := by simpa using hlt
      cases hsb : sameB s.staged s.saved k
      · have HSB := Lib.hid hsb
        clear hsb
        go_upto_region 10 with (fail)
        go_quiet (fail)
        go_wp2
        go_roundw
        case rel => exact ⟨k + 1, by omega, by go_num, by rw [HST.out, HSB.out]; rfl, HZR.out.later (Below.drewN (Below.refl _ _) _)⟩
        case measure => simp [intOf]; omega
      · have HSB := Lib.hid hsb
        clear hsb
        go_upto_region 10 with (fail)
        go_quiet (fail)
        go_wp2
        go_roundw
        case rel => exact ⟨k + 1, by omega, by go_num, by rw [HST.out, HSB.out]; rfl, HZR.out.later (Below.drewN (Below.refl _ _) _)⟩
        case measure => simp [intOf]; omega
    · have hkn : k = n := by omega
      subst hkn
      have HSE := Lib.hid (sameB_end HTL.out HSL.out)
      rw [decide_eq_false HNE.out] at HSE
      have hse := HSE.out
      rw [hse]
      clear hse
      go_upto_region 14 with (fail)
      have r2 := HZR.out.row 2 rfl
      go_wp2_with (fail)
      (with_reducible refine (pages_r k (by omega) wr).mono ?_)
      rintro e w1 ⟨rfl, rfl⟩
      rw [HKK.out]
      have r3 := HZR.out.row 3 rfl
      have r3a : (wr.alloc (.cells #[] 3)).cell? ⟨w.heap.size, 3, none⟩ = some (.slice q.Q2 k q.c2) := ((below_one wr _).cell (p := ⟨w.heap.size, 3, none⟩) (World.block_lt_of_cell? wr _ r3)).trans r3
      have hltw := HZR.out.lt
      clear r2
      go_wp2_with (at_builtin; refine wpList_append_rd _ rfl _ _ 35 rfl (w.heap.size + 3) 3 i3 (.int .i64 0) 1 8 Try.underlying35 hi3 hz30 hz31 hz32 rfl (by omega) _ 0 [] rfl (World.ownsRow_lit wr #[] 0 (by omega) hm0 rfl) w.heap.size _ k q.c2 (icells s.staged) rfl ((HA.out.rd.below HZR.out.below (Nat.le_refl _)).below (below_one wr _) HZR.out.below.size) HKL.out (icells_one _) (by unfold maxLen; omega) (by omega) (by simp; omega) ?_)
      intro v5 w5 hown5 hgrow5 _
      have ho5 : w5.ownsRow (w.heap.size + 3) 3 1 v5 k (icells s.staged) := by simpa using hown5
      have HX5 := Lib.hid ((HZR.out.later (below_one wr _)).grown hgrow5 (fun m e => by have hk' : some wr.heap.size = some m := e; injection hk' with hk'; omega))
      obtain ⟨Q8, c8, rfl, hc81, hc82, _⟩ := own_form ho5
      have HC8 := Lib.hid (And.intro hc81 hc82)
      have HV5 : Hid (RdX (X3 X w.heap.size) w5 Q8 (icells s.staged)) := RdX.own (by rw [icells_length]; exact HTL.out) ho5 (fun m hm hx => by
        have h1 := (ho5.lt m hm).1
        rcases hx with hx | hx
        · have := HXX.out m hx
          omega
        · omega)
      have hp5 : RdP (X3 X w.heap.size) w5 none [] := RdP.nil
      have r8 := HX5.out.row 8 rfl
      have z8 := HX5.out.fz 8
      clear r3 r3a hown5 hgrow5 ho5 hc81 hc82 hltw
      go_upto_region 16 with (fail)
      have HZ5 : Hid (Hz w (w5.setCell ⟨w.heap.size, 8, none⟩ (.slice Q8 k c8)) #[Value.int .i64 s.first, .int .i64 s.blocks, .slice q.Q1 k q.c1, .slice q.Q2 k q.c2, .slice q.Q3 k q.c3, .int .i64 s.seq, .int .i64 s.block, .int .i64 s.slot, .slice Q8 k c8, .slice q.Q5 0 c5, .int .i64 q.pg, .int .i64 q.er, .int .i64 q.nb, .int .i64 q.ns, .bool false] #[Value.slice x.A g.img.length x.c, .int .i64 g.pg, .slice x.B g.wear.length x.d, .bool false, .int .i64 g.fuse, .slice x.P g.picks.length x.r]) := HX5.out.set 8 (.slice Q8 k c8)
      have HV6 := Lib.hid (HV5.out.onlyX (OnlyX.set w5 ⟨w.heap.size, 8, none⟩ (.slice Q8 k c8) (x30 _ _)))
      obtain ⟨V5, hV5⟩ : ∃ V, w5.setCell ⟨w.heap.size, 8, none⟩ (.slice Q8 k c8) = V := ⟨_, rfl⟩
      rw [hV5] at HZ5 HV6
      try rw [hV5]
      clear hV5 r8 z8 hp5
      have r5 := HZ5.out.row 5 rfl
      have r8 := HZ5.out.row 8 rfl
      have e1 : IntKind.i64.wrap (s.seq + 1) = s.seq + 1 := wrap_i64_small _ (by omega) (by omega)
      have HEN := Lib.hid (enc_ryes (X3 X w.heap.size) (s.seq + 1) Q8 k c8 s.staged V5 (X3.lt HXX.out HZ5.out.lt) HV6.out.rd HTL.out HENC.out)
      rw [HKK.out] at HEN
      go_wp2_with (fail)
      clear r5 r8 e1
      (with_reducible refine HEN.out.mono ?_)
      rintro e w6 ⟨Q9, c9, rfl, hc91, hc92, hp6, hb6⟩
      have HC9 := Lib.hid (And.intro hc91 hc92)
      have HB6 : Hid (Bg X w w6 #[Value.int .i64 s.first, .int .i64 s.blocks, .slice q.Q1 k q.c1, .slice q.Q2 k q.c2, .slice q.Q3 k q.c3, .int .i64 s.seq, .int .i64 s.block, .int .i64 s.slot, .slice Q8 k c8, .slice q.Q5 0 c5, .int .i64 q.pg, .int .i64 q.er, .int .i64 q.nb, .int .i64 q.ns, .bool false] #[Value.slice x.A g.img.length x.c, .int .i64 g.pg, .slice x.B g.wear.length x.d, .bool false, .int .i64 g.fuse, .slice x.P g.picks.length x.r] Q8 s.staged Q9 (encP (s.seq + 1) s.staged)) := ⟨HZ5.out.later hb6, HV6.out.below hb6, hp6⟩
      have r9 := HB6.out.z.row 9 rfl
      have z9 := HB6.out.z.fz 9
      clear hc91 hc92 hp6 hb6
      go_upto_region 17 with (fail)
      have HB9 : Hid (Bg X w (w6.setCell ⟨w.heap.size, 9, none⟩ (.slice Q9 K c9)) #[Value.int .i64 s.first, .int .i64 s.blocks, .slice q.Q1 k q.c1, .slice q.Q2 k q.c2, .slice q.Q3 k q.c3, .int .i64 s.seq, .int .i64 s.block, .int .i64 s.slot, .slice Q8 k c8, .slice Q9 K c9, .int .i64 q.pg, .int .i64 q.er, .int .i64 q.nb, .int .i64 q.ns, .bool false] #[Value.slice x.A g.img.length x.c, .int .i64 g.pg, .slice x.B g.wear.length x.d, .bool false, .int .i64 g.fuse, .slice x.P g.picks.length x.r] Q8 s.staged Q9 (encP (s.seq + 1) s.staged)) := (HB6.out.set 9 (.slice Q9 K c9))
      obtain ⟨V_HB9, hV_HB9⟩ : ∃ V, (w6.setCell ⟨w.heap.size, 9, none⟩ (.slice Q9 K c9)) = V := ⟨_, rfl⟩
      rw [hV_HB9] at HB9
      try rw [hV_HB9]
      clear hV_HB9 r9 z9
      have r6 := HB9.out.z.row 6 rfl
      have r11 := HB9.out.z.row 11 rfl
      have r12 := HB9.out.z.row 12 rfl
      have r13 := HB9.out.z.row 13 rfl
      have z11 := HB9.out.z.fz 11
      have z12 := HB9.out.z.fz 12
      have z13 := HB9.out.z.fz 13
      go_upto_region 18 with (fail)
      have HBA : Hid (Bg X w (((V_HB9.setCell ⟨w.heap.size, 11, none⟩ (.int .i64 (-1))).setCell ⟨w.heap.size, 12, none⟩ (.int .i64 (s.block : Int))).setCell ⟨w.heap.size, 13, none⟩ (.int .i64 (-1))) #[Value.int .i64 s.first, .int .i64 s.blocks, .slice q.Q1 k q.c1, .slice q.Q2 k q.c2, .slice q.Q3 k q.c3, .int .i64 s.seq, .int .i64 s.block, .int .i64 s.slot, .slice Q8 k c8, .slice Q9 K c9, .int .i64 q.pg, .int .i64 (-1), .int .i64 (s.block : Int), .int .i64 (-1), .bool false] #[Value.slice x.A g.img.length x.c, .int .i64 g.pg, .slice x.B g.wear.length x.d, .bool false, .int .i64 g.fuse, .slice x.P g.picks.length x.r] Q8 s.staged Q9 (encP (s.seq + 1) s.staged)) := (((HB9.out.set 11 (.int .i64 (-1))).set 12 (.int .i64 (s.block : Int))).set 13 (.int .i64 (-1)))
      obtain ⟨V_HBA, hV_HBA⟩ : ∃ V, (((V_HB9.setCell ⟨w.heap.size, 11, none⟩ (.int .i64 (-1))).setCell ⟨w.heap.size, 12, none⟩ (.int .i64 (s.block : Int))).setCell ⟨w.heap.size, 13, none⟩ (.int .i64 (-1))) = V := ⟨_, rfl⟩
      rw [hV_HBA] at HBA
      try rw [hV_HBA]
      clear hV_HBA r6 r11 r12 r13 z11 z12 z13
      have r7 := HBA.out.z.row 7 rfl
      obtain ⟨t0, ht0⟩ : ∃ t0 : Nat, s.slot + 1 = t0 := ⟨(s.slot + 1).toNat, by omega⟩
      have e1 : IntKind.i64.wrap (s.slot + 1) = (t0 : Int) := by rw [ht0]; exact wrap_i64_small _ (by omega) (by omega)
      have HT0 := Lib.hid ht0
      have hkz : ¬ K = 0 := by omega
      clear ht0
      go_upto_region 19 with (fail)
      clear r7 e1
      go_loopw [9] (fun i wr => ∃ t : Nat, i = .int .i64 (t : Int) ∧ s.slot < t ∧ t ≤ T ∧ (((∀ j < t, s.slot < j → blankN g (pageS s g s.block j) s.k = false) ∧ Bg X w wr #[Value.int .i64 s.first, .int .i64 s.blocks, .slice q.Q1 k q.c1, .slice q.Q2 k q.c2, .slice q.Q3 k q.c3, .int .i64 s.seq, .int .i64 s.block, .int .i64 s.slot, .slice Q8 k c8, .slice Q9 K c9, .int .i64 q.pg, .int .i64 (-1), .int .i64 (s.block : Int), .int .i64 (-1), .bool false] #[Value.slice x.A g.img.length x.c, .int .i64 g.pg, .slice x.B g.wear.length x.d, .bool false, .int .i64 g.fuse, .slice x.P g.picks.length x.r] Q8 s.staged Q9 (encP (s.seq + 1) s.staged)) ∨ (∃ j0 : Nat, freeS s g = some j0 ∧ j0 ≤ 64 ∧ Bg X w wr #[Value.int .i64 s.first, .int .i64 s.blocks, .slice q.Q1 k q.c1, .slice q.Q2 k q.c2, .slice q.Q3 k q.c3, .int .i64 s.seq, .int .i64 s.block, .int .i64 s.slot, .slice Q8 k c8, .slice Q9 K c9, .int .i64 q.pg, .int .i64 (-1), .int .i64 (s.block : Int), .int .i64 (j0 : Int), .bool false] #[Value.slice x.A g.img.length x.c, .int .i64 g.pg, .slice x.B g.wear.length x.d, .bool false, .int .i64 g.fuse, .slice x.P g.picks.length x.r] Q8 s.staged Q9 (encP (s.seq + 1) s.staged)))) (fun i _ => T - (intOf i).toNat)
      case atStart => exact ⟨t0, rfl, by have := HT0.out; omega, by have := HT0.out; omega, .inl ⟨fun j h1 h2 => by have := HT0.out; omega, HBA.out⟩⟩
      case round =>
        obtain ⟨t, rfl, hst, htT, hcase⟩ := hrel
        rcases hcase with ⟨hno, hbg⟩ | ⟨j0, hj0, hj64, hbg⟩
        · have HBG := Lib.hid hbg
          have HNO := Lib.hid hno
          clear hbg hno
          have f1 := HBG.out.z.frow 1 rfl
          have r13 := HBG.out.z.row 13 rfl
          by_cases hlt : t < T
          · go_upto_region 21 with (fail)
            clear f1 r13
            have HD1 := Lib.hid (HBG.out.z.later (Below.drew (Below.refl _ _)))
            refine wp_region_held (S := fun w' => w'.heap[w.heap.size]? = some (.cells #[Value.int .i64 s.first, .int .i64 s.blocks, .slice q.Q1 k q.c1, .slice q.Q2 k q.c2, .slice q.Q3 k q.c3, .int .i64 s.seq, .int .i64 s.block, .int .i64 s.slot, .slice Q8 k c8, .slice Q9 K c9, .int .i64 q.pg, .int .i64 (-1), .int .i64 (s.block : Int), .int .i64 (-1), .bool false] 46 (0, 0)) ∧ w'.heap[w.heap.size + 1]? = some (.cells #[Value.slice x.A g.img.length x.c, .int .i64 g.pg, .slice x.B g.wear.length x.d, .bool false, .int .i64 g.fuse, .slice x.P g.picks.length x.r] 37 (0, 0))) (by kernel_rfl) ?_
            change wpAnyH _ _ _ _ _ _ _ _ (World.drew _)
            refine wpAnyH_take (i := 0) (v := .agg #[Value.slice x.A g.img.length x.c, .int .i64 g.pg, .slice x.B g.wear.length x.d, .bool false, .int .i64 g.fuse, .slice x.P g.picks.length x.r]) rfl (by kernel_rfl) (by kernel_rfl) (by kernel_rfl) (fun _ _ _ h => h) ?_ ⟨HD1.out.h, HD1.out.h4⟩ ?_
            · refine yieldsIf_load_row ?_ 37 _ rfl (w.heap.size + 1) rfl 37 _ (0, 0) _ (fun _ h => h.2) Try.underlying37 rfl size60
              rfl
            change wpAnyH _ _ _ _ _ _ _ (Act.put _ (some 86) _) _
            simp only [Act.put, List.setIfInBounds_toArray, List.set_cons_zero, List.set_cons_succ]
            refine wpAnyH_take (i := 1) (v := .agg #[Value.int .i64 s.first, .int .i64 s.blocks, .slice q.Q1 k q.c1, .slice q.Q2 k q.c2, .slice q.Q3 k q.c3, .int .i64 s.seq, .int .i64 s.block, .int .i64 s.slot, .slice Q8 k c8, .slice Q9 K c9, .int .i64 q.pg, .int .i64 (-1), .int .i64 (s.block : Int), .int .i64 (-1), .bool false]) rfl (by kernel_rfl) (by kernel_rfl) (by kernel_rfl) (fun _ _ _ h => h) ?_ ⟨HD1.out.h, HD1.out.h4⟩ ?_
            · refine yieldsIf_load_row ?_ 46 _ rfl w.heap.size rfl 46 _ (0, 0) _ (fun _ h => h.1) Try.underlying46 rfl size105
              rfl
            change wpAnyH _ _ _ _ _ _ _ (Act.put _ (some 87) _) _
            simp only [Act.put, List.setIfInBounds_toArray, List.set_cons_zero, List.set_cons_succ]
            refine wpAnyH_take (i := 2) (v := .agg #[Value.slice x.A g.img.length x.c, .int .i64 g.pg, .slice x.B g.wear.length x.d, .bool false, .int .i64 g.fuse, .slice x.P g.picks.length x.r]) rfl (by kernel_rfl) (by kernel_rfl) (by kernel_rfl) (fun _ _ _ h => h) ?_ ⟨HD1.out.h, HD1.out.h4⟩ ?_
            · refine yieldsIf_load_row ?_ 37 _ rfl (w.heap.size + 1) rfl 37 _ (0, 0) _ (fun _ h => h.2) Try.underlying37 rfl size60
              rfl
            change wpAnyH _ _ _ _ _ _ _ (Act.put _ (some 88) _) _
            simp only [Act.put, List.setIfInBounds_toArray, List.set_cons_zero, List.set_cons_succ]
            refine wpAnyH_take (i := 3) (v := .pointer (some ⟨w.heap.size, 6, none⟩)) rfl (by kernel_rfl) (by kernel_rfl) (by kernel_rfl) (fun _ _ _ h => h) (.inl ⟨?_, ?_⟩) ⟨HD1.out.h, HD1.out.h4⟩ ?_
            · rfl
            · rintro w' ⟨h1, h2⟩
              have h3 : w'.cell? ⟨w.heap.size, 6, none⟩ = some (.int .i64 (s.block : Int)) := cell_of_row w' w.heap.size 6 #[Value.int .i64 s.first, .int .i64 s.blocks, .slice q.Q1 k q.c1, .slice q.Q2 k q.c2, .slice q.Q3 k q.c3, .int .i64 s.seq, .int .i64 s.block, .int .i64 s.slot, .slice Q8 k c8, .slice Q9 K c9, .int .i64 q.pg, .int .i64 (-1), .int .i64 (s.block : Int), .int .i64 (-1), .bool false] 46 (0, 0) h1
              clear h1 h2
              go_simp
            change wpAnyH _ _ _ _ _ _ _ (Act.put _ (some 89) _) _
            simp only [Act.put, List.setIfInBounds_toArray, List.set_cons_zero, List.set_cons_succ]
            refine wpAnyH_take (i := 4) (v := .int .i64 (s.block : Int)) rfl (by kernel_rfl) (by kernel_rfl) (by kernel_rfl) (fun _ _ _ h => h) (.inl ⟨?_, ?_⟩) ⟨HD1.out.h, HD1.out.h4⟩ ?_
            · rfl
            · rintro w' ⟨h1, h2⟩
              have h3 : w'.cell? ⟨w.heap.size, 6, none⟩ = some (.int .i64 (s.block : Int)) := cell_of_row w' w.heap.size 6 #[Value.int .i64 s.first, .int .i64 s.blocks, .slice q.Q1 k q.c1, .slice q.Q2 k q.c2, .slice q.Q3 k q.c3, .int .i64 s.seq, .int .i64 s.block, .int .i64 s.slot, .slice Q8 k c8, .slice Q9 K c9, .int .i64 q.pg, .int .i64 (-1), .int .i64 (s.block : Int), .int .i64 (-1), .bool false] 46 (0, 0) h1
              clear h1 h2
              go_simp
            change wpAnyH _ _ _ _ _ _ _ (Act.put _ (some 90) _) _
            simp only [Act.put, List.setIfInBounds_toArray, List.set_cons_zero, List.set_cons_succ]
            refine wpAnyH_take (i := 5) (v := .int .i64 (t : Int)) rfl (by kernel_rfl) (by kernel_rfl) (by kernel_rfl) (fun _ _ _ h => h) (.inl ⟨?_, ?_⟩) ⟨HD1.out.h, HD1.out.h4⟩ ?_
            · rfl
            · rintro w' ⟨h1, h2⟩
              have h3 : w'.cell? ⟨w.heap.size, 6, none⟩ = some (.int .i64 (s.block : Int)) := cell_of_row w' w.heap.size 6 #[Value.int .i64 s.first, .int .i64 s.blocks, .slice q.Q1 k q.c1, .slice q.Q2 k q.c2, .slice q.Q3 k q.c3, .int .i64 s.seq, .int .i64 s.block, .int .i64 s.slot, .slice Q8 k c8, .slice Q9 K c9, .int .i64 q.pg, .int .i64 (-1), .int .i64 (s.block : Int), .int .i64 (-1), .bool false] 46 (0, 0) h1
              clear h1 h2
              go_simp
            change wpAnyH _ _ _ _ _ _ _ (Act.put _ (some 91) _) _
            simp only [Act.put, List.setIfInBounds_toArray, List.set_cons_zero, List.set_cons_succ]
            refine wpAnyH_take (i := 7) (v := .int .i64 (K : Int)) rfl (by kernel_rfl) (by kernel_rfl) (by kernel_rfl) (fun _ _ _ h => h) (.inl ⟨?_, ?_⟩) ⟨HD1.out.h, HD1.out.h4⟩ ?_
            · rfl
            · rintro w' ⟨h1, h2⟩
              have h3 : w'.cell? ⟨w.heap.size, 6, none⟩ = some (.int .i64 (s.block : Int)) := cell_of_row w' w.heap.size 6 #[Value.int .i64 s.first, .int .i64 s.blocks, .slice q.Q1 k q.c1, .slice q.Q2 k q.c2, .slice q.Q3 k q.c3, .int .i64 s.seq, .int .i64 s.block, .int .i64 s.slot, .slice Q8 k c8, .slice Q9 K c9, .int .i64 q.pg, .int .i64 (-1), .int .i64 (s.block : Int), .int .i64 (-1), .bool false] 46 (0, 0) h1
              clear h1 h2
              go_simp
            change wpAnyH _ _ _ _ _ _ _ (Act.put _ (some 93) _) _
            simp only [Act.put, List.setIfInBounds_toArray, List.set_cons_zero, List.set_cons_succ]
            refine wpAnyH_call (i := 6) (al := [.agg #[Value.int .i64 s.first, .int .i64 s.blocks, .slice q.Q1 k q.c1, .slice q.Q2 k q.c2, .slice q.Q3 k q.c3, .int .i64 s.seq, .int .i64 s.block, .int .i64 s.slot, .slice Q8 k c8, .slice Q9 K c9, .int .i64 q.pg, .int .i64 (-1), .int .i64 (s.block : Int), .int .i64 (-1), .bool false], .agg #[Value.slice x.A g.img.length x.c, .int .i64 g.pg, .slice x.B g.wear.length x.d, .bool false, .int .i64 g.fuse, .slice x.P g.picks.length x.r], .int .i64 (s.block : Int), .int .i64 (t : Int)]) (by kernel_rfl) rfl (by rfl) _ _ rfl (by rfl) enter103 ?_
            (with_reducible refine (HFV.out _ s.block t (by omega) (by omega) _ _ _ _ _ _ _ _ _ _ _ _ _).mono ?_)
            rintro e w9 ⟨rfl, hb9⟩
            have HD2 := Lib.hid (HBG.out.later ((Below.drew (Below.refl _ _)).trans hb9))
            refine ⟨_, rfl, ⟨HD2.out.z.h, HD2.out.z.h4⟩, ?_⟩
            change wpAnyH _ _ _ _ _ _ _ (Act.put _ (some 92) _) _
            simp only [Act.put, List.setIfInBounds_toArray, List.set_cons_zero, List.set_cons_succ]
            refine wpAnyH_call (i := 8) (al := [.agg #[Value.slice x.A g.img.length x.c, .int .i64 g.pg, .slice x.B g.wear.length x.d, .bool false, .int .i64 g.fuse, .slice x.P g.picks.length x.r], .int .i64 (((s.first + s.block) * g.pg + t * K : Nat) : Int), .int .i64 (K : Int)]) (by kernel_rfl) rfl (by rfl) _ _ rfl (by rfl) enter104 ?_
            (with_reducible refine (HBL.out w9 HD2.out.z.below ((s.first + s.block) * g.pg + t * K) K hK1 (HPI.out t (by omega))).mono ?_)
            rintro e w8 ⟨rfl, hb8⟩
            have HD3 := Lib.hid (HD2.out.later hb8)
            refine ⟨_, rfl, ⟨HD3.out.z.h, HD3.out.z.h4⟩, ?_⟩
            change wpAnyH _ _ _ _ _ _ _ (Act.put _ (some 94) _) _
            simp only [Act.put, List.setIfInBounds_toArray, List.set_cons_zero, List.set_cons_succ]
            refine wpAnyH_done (by kernel_rfl) ?_ _
            clear hb9 hb8
            have HBP := Lib.hid (HPS.out s.block t)
            obtain ⟨bl, hbl9⟩ : ∃ b, blankN g ((s.first + s.block) * g.pg + t * K) K = b := ⟨_, rfl⟩
            have HBE : Hid (blankN g (pageS s g s.block t) s.k = bl) := by rw [Hid, HBP.out, HkK.out]; exact hbl9
            rw [hbl9]
            clear hbl9
            have r13 := HD3.out.z.row 13 rfl
            have z13 := HD3.out.z.fz 13
            cases bl
            · go_wp2
              go_roundw
              case rel =>
                refine ⟨t + 1, by go_num, by omega, by omega, .inl ⟨fun j h1 h2 => ?_, HD3.out⟩⟩
                by_cases e : j = t
                · subst e; exact HBE.out
                · exact HNO.out j (by omega) h2
              case measure => simp [intOf]; omega
            · go_wp2
              go_roundw
              case rel => exact ⟨t + 1, by go_num, by omega, by omega, .inr ⟨t, free_some (by rw [HTs.out]; exact hlt) hst HBE.out HNO.out, by omega, HD3.out.set 13 (.int .i64 (t : Int))⟩⟩
              case measure => simp [intOf]; omega
          · have HFR : Hid (freeS s g = none) := free_none (fun j h1 h2 => HNO.out j (by have := HTs.out; omega) h2)
            have r6 := HBG.out.z.row 6 rfl
            have r1 := HBG.out.z.row 1 rfl
            have r12 := HBG.out.z.row 12 rfl
            have z12 := HBG.out.z.fz 12
            have z13 := HBG.out.z.fz 13
            obtain ⟨nb, hnb⟩ : ∃ m, (s.block + 1) % s.blocks = m := ⟨_, rfl⟩
            have hnbl : nb < s.blocks := by rw [← hnb]; exact Nat.mod_lt _ (by omega)
            have e1 : IntKind.i64.wrap ((s.block : Int) + 1) = (s.block : Int) + 1 := wrap_i64_small _ (by omega) (by omega)
            have e2 : ((s.block : Int) + 1) % (s.blocks : Int) = (nb : Int) := by rw [← hnb]; push_cast; rfl
            have e3 : ((s.block : Int) + 1).tmod (s.blocks : Int) = (nb : Int) := by rw [Int.tmod_eq_emod_of_nonneg (by omega)]; exact e2
            have e4 : ¬ s.blocks = 0 := by omega
            have HNB := Lib.hid hnb
            have hlt2 : decide (t < T) = false := by simpa using hlt
            clear hnb
            go_upto_region 25 with (fail)
            clear e1 e2 e3 r6 r1 f1 hlt2
            have HBN : Hid (Bg X w ((wr.setCell ⟨w.heap.size, 12, none⟩ (.int .i64 (nb : Int))).setCell ⟨w.heap.size, 13, none⟩ (.int .i64 0)) #[Value.int .i64 s.first, .int .i64 s.blocks, .slice q.Q1 k q.c1, .slice q.Q2 k q.c2, .slice q.Q3 k q.c3, .int .i64 s.seq, .int .i64 s.block, .int .i64 s.slot, .slice Q8 k c8, .slice Q9 K c9, .int .i64 q.pg, .int .i64 (-1), .int .i64 (nb : Int), .int .i64 0, .bool false] #[Value.slice x.A g.img.length x.c, .int .i64 g.pg, .slice x.B g.wear.length x.d, .bool false, .int .i64 g.fuse, .slice x.P g.picks.length x.r] Q8 s.staged Q9 (encP (s.seq + 1) s.staged)) := ((HBG.out.set 12 (.int .i64 (nb : Int))).set 13 (.int .i64 0))
            obtain ⟨V_HBN, hV_HBN⟩ : ∃ V, ((wr.setCell ⟨w.heap.size, 12, none⟩ (.int .i64 (nb : Int))).setCell ⟨w.heap.size, 13, none⟩ (.int .i64 0)) = V := ⟨_, rfl⟩
            rw [hV_HBN] at HBN
            try rw [hV_HBN]
            clear hV_HBN r12 r13 z12 z13
            have r0 := HBN.out.z.row 0 rfl
            have r12 := HBN.out.z.row 12 rfl
            have f1 := HBN.out.z.frow 1 rfl
            obtain ⟨fb, hfb9⟩ : ∃ m, s.first + nb = m := ⟨_, rfl⟩
            obtain ⟨M1, hM1⟩ : ∃ m, fb * g.pg = m := ⟨_, rfl⟩
            have hM1b : M1 ≤ 128 * 16 := by rw [← hM1]; exact Nat.mul_le_mul (by omega) hp16
            have e1 : IntKind.i64.wrap ((s.first : Int) + (nb : Int)) = (fb : Int) := by rw [show (s.first : Int) + (nb : Int) = (fb : Int) by omega]; exact wrap_i64_small _ (by omega) (by omega)
            have e2 : IntKind.i64.wrap ((fb : Int) * (g.pg : Int)) = (M1 : Int) := by
              have e : (fb : Int) * (g.pg : Int) = (M1 : Int) := by rw [← hM1]; push_cast; rfl
              rw [e]
              exact wrap_i64_small _ (by omega) (by omega)
            have HBB : Hid (M1 + g.pg ≤ g.wear.length * g.pg) := by
              have := HOK.out.block_in (b := nb) hnbl
              rw [HPS.out nb 0] at this
              rw [Hid, ← hM1, ← hfb9]
              omega
            have HBQ : Hid (pageS s g nb 0 = M1) := by rw [Hid, HPS.out nb 0, hfb9, hM1]; omega
            have HFB := Lib.hid hfb9
            have HW := Lib.hid (HBL.out V_HBN HBN.out.z.below M1 g.pg hpg1 HBB.out)
            clear hfb9 hM1
            refine wp_region_list ?_
            refine wpList_load_row rfl 37 _ rfl (w.heap.size + 1) rfl 37 #[Value.slice x.A g.img.length x.c, .int .i64 g.pg, .slice x.B g.wear.length x.d, .bool false, .int .i64 g.fuse, .slice x.P g.picks.length x.r] (0, 0) _ HBN.out.z.h4 Try.underlying37 rfl size60 ?_
            go_wp2_with (fail)
            clear r0 r12 f1 e2
            (with_reducible refine HW.out.mono ?_)
            rintro e w4 ⟨rfl, hb4⟩
            have HB4 := Lib.hid (HBN.out.later hb4)
            clear hb4
            obtain ⟨bl, hbl9⟩ : ∃ b, blankN g M1 g.pg = b := ⟨_, rfl⟩
            have HBE : Hid (blankN g (pageS s g nb 0) g.pg = bl) := by rw [Hid, HBQ.out]; exact hbl9
            rw [hbl9]
            clear hbl9
            cases bl
            · have r0 := HB4.out.z.row 0 rfl
              have r12 := HB4.out.z.row 12 rfl
              have r11 := HB4.out.z.row 11 rfl
              have z11 := HB4.out.z.fz 11
              go_upto_region 27 with (fail)
              clear r0 r12 e1
              have HBM : Hid (Bg X w (w4.setCell ⟨w.heap.size, 11, none⟩ (.int .i64 (fb : Int))) #[Value.int .i64 s.first, .int .i64 s.blocks, .slice q.Q1 k q.c1, .slice q.Q2 k q.c2, .slice q.Q3 k q.c3, .int .i64 s.seq, .int .i64 s.block, .int .i64 s.slot, .slice Q8 k c8, .slice Q9 K c9, .int .i64 q.pg, .int .i64 (fb : Int), .int .i64 (nb : Int), .int .i64 0, .bool false] #[Value.slice x.A g.img.length x.c, .int .i64 g.pg, .slice x.B g.wear.length x.d, .bool false, .int .i64 g.fuse, .slice x.P g.picks.length x.r] Q8 s.staged Q9 (encP (s.seq + 1) s.staged)) := (HB4.out.set 11 (.int .i64 (fb : Int)))
              obtain ⟨V_HBM, hV_HBM⟩ : ∃ V, (w4.setCell ⟨w.heap.size, 11, none⟩ (.int .i64 (fb : Int))) = V := ⟨_, rfl⟩
              rw [hV_HBM] at HBM
              try rw [hV_HBM]
              clear hV_HBM r11 z11
              go_upto_region 27 with (fail)
              obtain ⟨at9, hat9⟩ : ∃ m, (s.first + nb) * g.pg + 0 * K = m := ⟨_, rfl⟩
              have HAT := Lib.hid hat9
              have HCF := Lib.hid (HF0.out V_HBM nb (by omega))
              rw [hat9] at HCF
              clear hat9
              refine wp_region_list ?_
              refine wpList_load_row rfl 46 _ rfl w.heap.size rfl 46 #[Value.int .i64 s.first, .int .i64 s.blocks, .slice q.Q1 k q.c1, .slice q.Q2 k q.c2, .slice q.Q3 k q.c3, .int .i64 s.seq, .int .i64 s.block, .int .i64 s.slot, .slice Q8 k c8, .slice Q9 K c9, .int .i64 q.pg, .int .i64 (fb : Int), .int .i64 (nb : Int), .int .i64 0, .bool false] (0, 0) _ HBM.out.z.h Try.underlying46 rfl size105 ?_
              refine wpList_load_row rfl 37 _ rfl (w.heap.size + 1) rfl 37 #[Value.slice x.A g.img.length x.c, .int .i64 g.pg, .slice x.B g.wear.length x.d, .bool false, .int .i64 g.fuse, .slice x.P g.picks.length x.r] (0, 0) _ HBM.out.z.h4 Try.underlying37 rfl size60 ?_
              have r12 := HBM.out.z.row 12 rfl
              have r13 := HBM.out.z.row 13 rfl
              go_wp2_with (fail)
              clear r12 r13
              (with_reducible refine (HCF.out _ _ _ _ _ _ _ _ _ _ _ _ _).mono ?_)
              rintro e w7 ⟨rfl, hb7⟩
              have HY7 := Lib.hid (HBM.out.later hb7)
              have r10 := HY7.out.z.row 10 rfl
              have z10 := HY7.out.z.fz 10
              clear hb7
              go_upto_region 28 with (fail)
              clear r10 z10
              have HE7 : Hid (Bg X w (w7.setCell ⟨w.heap.size, 10, none⟩ (.int .i64 (at9 : Int))) #[Value.int .i64 s.first, .int .i64 s.blocks, .slice q.Q1 k q.c1, .slice q.Q2 k q.c2, .slice q.Q3 k q.c3, .int .i64 s.seq, .int .i64 s.block, .int .i64 s.slot, .slice Q8 k c8, .slice Q9 K c9, .int .i64 (at9 : Int), .int .i64 (fb : Int), .int .i64 (nb : Int), .int .i64 0, .bool false] #[Value.slice x.A g.img.length x.c, .int .i64 g.pg, .slice x.B g.wear.length x.d, .bool false, .int .i64 g.fuse, .slice x.P g.picks.length x.r] Q8 s.staged Q9 (encP (s.seq + 1) s.staged)) := HY7.out.set 10 (.int .i64 (at9 : Int))
              obtain ⟨V7, hV7⟩ : ∃ V, w7.setCell ⟨w.heap.size, 10, none⟩ (.int .i64 (at9 : Int)) = V := ⟨_, rfl⟩
              rw [hV7] at HE7
              try rw [hV7]
              clear hV7
              refine wp_region_list ?_
              refine wpList_load_row rfl 46 _ rfl w.heap.size rfl 46 #[Value.int .i64 s.first, .int .i64 s.blocks, .slice q.Q1 k q.c1, .slice q.Q2 k q.c2, .slice q.Q3 k q.c3, .int .i64 s.seq, .int .i64 s.block, .int .i64 s.slot, .slice Q8 k c8, .slice Q9 K c9, .int .i64 (at9 : Int), .int .i64 (fb : Int), .int .i64 (nb : Int), .int .i64 0, .bool false] (0, 0) _ HE7.out.z.h Try.underlying46 rfl size105 ?_
              obtain ⟨old8, ho8, hh8⟩ := HE7.out.z.h8
              refine wpList_store_row rfl 46 _ _ rfl (w.heap.size + 2) #[Value.int .i64 s.first, .int .i64 s.blocks, .slice q.Q1 k q.c1, .slice q.Q2 k q.c2, .slice q.Q3 k q.c3, .int .i64 s.seq, .int .i64 s.block, .int .i64 s.slot, .slice Q8 k c8, .slice Q9 K c9, .int .i64 (at9 : Int), .int .i64 (fb : Int), .int .i64 (nb : Int), .int .i64 0, .bool false] rfl rfl 46 old8 hh8 size105 ho8 (one15 ..) ?_
              go_wp2
              (try simp only [Exit.inBlock, Exit.then])
              refine bodyPost_ret (v := .tuple #[.agg #[Value.int .i64 s.first, .int .i64 s.blocks, .slice q.Q1 k q.c1, .slice q.Q2 k q.c2, .slice q.Q3 k q.c3, .int .i64 s.seq, .int .i64 s.block, .int .i64 s.slot, .slice Q8 k c8, .slice Q9 K c9, .int .i64 (at9 : Int), .int .i64 (fb : Int), .int .i64 (nb : Int), .int .i64 0, .bool false], .int .i64 0]) (results_row_tmp (p := 4) (u := 5) rfl _ _ (w.heap.size + 2) 46 #[Value.int .i64 s.first, .int .i64 s.blocks, .slice q.Q1 k q.c1, .slice q.Q2 k q.c2, .slice q.Q3 k q.c3, .int .i64 s.seq, .int .i64 s.block, .int .i64 s.slot, .slice Q8 k c8, .slice Q9 K c9, .int .i64 (at9 : Int), .int .i64 (fb : Int), .int .i64 (nb : Int), .int .i64 0, .bool false] (0, 0) _ rfl (setRow_heap _ _ _ _ _ _ hh8) Try.underlying46 rfl size105) rfl ⟨Q8, c8, Q9, c9, nb, 0, (fb : Int), by rw [HAT.out] <;> rfl, below_setRow HE7.out.z.below (by omega) _, HE7.out.fin1 _, HE7.out.fin2 _, HC8.out.1, HC8.out.2, HC9.out.1, HC9.out.2, .inr ⟨HFR.out, HNB.out.symm, rfl, by rw [if_neg (by rw [HBE.out]; decide), HFB.out]⟩⟩
            · clear e1
              go_upto_region 27 with (fail)
              obtain ⟨at9, hat9⟩ : ∃ m, (s.first + nb) * g.pg + 0 * K = m := ⟨_, rfl⟩
              have HAT := Lib.hid hat9
              have HCF := Lib.hid (HF0.out w4 nb (by omega))
              rw [hat9] at HCF
              clear hat9
              refine wp_region_list ?_
              refine wpList_load_row rfl 46 _ rfl w.heap.size rfl 46 #[Value.int .i64 s.first, .int .i64 s.blocks, .slice q.Q1 k q.c1, .slice q.Q2 k q.c2, .slice q.Q3 k q.c3, .int .i64 s.seq, .int .i64 s.block, .int .i64 s.slot, .slice Q8 k c8, .slice Q9 K c9, .int .i64 q.pg, .int .i64 (-1), .int .i64 (nb : Int), .int .i64 0, .bool false] (0, 0) _ HB4.out.z.h Try.underlying46 rfl size105 ?_
              refine wpList_load_row rfl 37 _ rfl (w.heap.size + 1) rfl 37 #[Value.slice x.A g.img.length x.c, .int .i64 g.pg, .slice x.B g.wear.length x.d, .bool false, .int .i64 g.fuse, .slice x.P g.picks.length x.r] (0, 0) _ HB4.out.z.h4 Try.underlying37 rfl size60 ?_
              have r12 := HB4.out.z.row 12 rfl
              have r13 := HB4.out.z.row 13 rfl
              go_wp2_with (fail)
              clear r12 r13
              (with_reducible refine (HCF.out _ _ _ _ _ _ _ _ _ _ _ _ _).mono ?_)
              rintro e w7 ⟨rfl, hb7⟩
              have HY7 := Lib.hid (HB4.out.later hb7)
              have r10 := HY7.out.z.row 10 rfl
              have z10 := HY7.out.z.fz 10
              clear hb7
              go_upto_region 28 with (fail)
              clear r10 z10
              have HE7 : Hid (Bg X w (w7.setCell ⟨w.heap.size, 10, none⟩ (.int .i64 (at9 : Int))) #[Value.int .i64 s.first, .int .i64 s.blocks, .slice q.Q1 k q.c1, .slice q.Q2 k q.c2, .slice q.Q3 k q.c3, .int .i64 s.seq, .int .i64 s.block, .int .i64 s.slot, .slice Q8 k c8, .slice Q9 K c9, .int .i64 (at9 : Int), .int .i64 (-1), .int .i64 (nb : Int), .int .i64 0, .bool false] #[Value.slice x.A g.img.length x.c, .int .i64 g.pg, .slice x.B g.wear.length x.d, .bool false, .int .i64 g.fuse, .slice x.P g.picks.length x.r] Q8 s.staged Q9 (encP (s.seq + 1) s.staged)) := HY7.out.set 10 (.int .i64 (at9 : Int))
              obtain ⟨V7, hV7⟩ : ∃ V, w7.setCell ⟨w.heap.size, 10, none⟩ (.int .i64 (at9 : Int)) = V := ⟨_, rfl⟩
              rw [hV7] at HE7
              try rw [hV7]
              clear hV7
              refine wp_region_list ?_
              refine wpList_load_row rfl 46 _ rfl w.heap.size rfl 46 #[Value.int .i64 s.first, .int .i64 s.blocks, .slice q.Q1 k q.c1, .slice q.Q2 k q.c2, .slice q.Q3 k q.c3, .int .i64 s.seq, .int .i64 s.block, .int .i64 s.slot, .slice Q8 k c8, .slice Q9 K c9, .int .i64 (at9 : Int), .int .i64 (-1), .int .i64 (nb : Int), .int .i64 0, .bool false] (0, 0) _ HE7.out.z.h Try.underlying46 rfl size105 ?_
              obtain ⟨old8, ho8, hh8⟩ := HE7.out.z.h8
              refine wpList_store_row rfl 46 _ _ rfl (w.heap.size + 2) #[Value.int .i64 s.first, .int .i64 s.blocks, .slice q.Q1 k q.c1, .slice q.Q2 k q.c2, .slice q.Q3 k q.c3, .int .i64 s.seq, .int .i64 s.block, .int .i64 s.slot, .slice Q8 k c8, .slice Q9 K c9, .int .i64 (at9 : Int), .int .i64 (-1), .int .i64 (nb : Int), .int .i64 0, .bool false] rfl rfl 46 old8 hh8 size105 ho8 (one15 ..) ?_
              go_wp2
              (try simp only [Exit.inBlock, Exit.then])
              refine bodyPost_ret (v := .tuple #[.agg #[Value.int .i64 s.first, .int .i64 s.blocks, .slice q.Q1 k q.c1, .slice q.Q2 k q.c2, .slice q.Q3 k q.c3, .int .i64 s.seq, .int .i64 s.block, .int .i64 s.slot, .slice Q8 k c8, .slice Q9 K c9, .int .i64 (at9 : Int), .int .i64 (-1), .int .i64 (nb : Int), .int .i64 0, .bool false], .int .i64 0]) (results_row_tmp (p := 4) (u := 5) rfl _ _ (w.heap.size + 2) 46 #[Value.int .i64 s.first, .int .i64 s.blocks, .slice q.Q1 k q.c1, .slice q.Q2 k q.c2, .slice q.Q3 k q.c3, .int .i64 s.seq, .int .i64 s.block, .int .i64 s.slot, .slice Q8 k c8, .slice Q9 K c9, .int .i64 (at9 : Int), .int .i64 (-1), .int .i64 (nb : Int), .int .i64 0, .bool false] (0, 0) _ rfl (setRow_heap _ _ _ _ _ _ hh8) Try.underlying46 rfl size105) rfl ⟨Q8, c8, Q9, c9, nb, 0, (-1), by rw [HAT.out] <;> rfl, below_setRow HE7.out.z.below (by omega) _, HE7.out.fin1 _, HE7.out.fin2 _, HC8.out.1, HC8.out.2, HC9.out.1, HC9.out.2, .inr ⟨HFR.out, HNB.out.symm, rfl, by rw [if_pos HBE.out]⟩⟩
        · have HBG := Lib.hid hbg
          have HJ0 := Lib.hid hj0
          clear hbg hj0
          have f1 := HBG.out.z.frow 1 rfl
          have r13 := HBG.out.z.row 13 rfl
          have hj1 : decide ((j0 : Int) < 0) = false := by simp
          by_cases hlt : t < T
          · go_upto_region 27 with (fail)
            clear f1 r13
            go_upto_region 27 with (fail)
            obtain ⟨at9, hat9⟩ : ∃ m, (s.first + s.block) * g.pg + j0 * K = m := ⟨_, rfl⟩
            have HAT := Lib.hid hat9
            have HCF := Lib.hid (HFV.out wr s.block j0 (by omega) (by omega))
            rw [hat9] at HCF
            clear hat9
            refine wp_region_list ?_
            refine wpList_load_row rfl 46 _ rfl w.heap.size rfl 46 #[Value.int .i64 s.first, .int .i64 s.blocks, .slice q.Q1 k q.c1, .slice q.Q2 k q.c2, .slice q.Q3 k q.c3, .int .i64 s.seq, .int .i64 s.block, .int .i64 s.slot, .slice Q8 k c8, .slice Q9 K c9, .int .i64 q.pg, .int .i64 (-1), .int .i64 (s.block : Int), .int .i64 (j0 : Int), .bool false] (0, 0) _ HBG.out.z.h Try.underlying46 rfl size105 ?_
            refine wpList_load_row rfl 37 _ rfl (w.heap.size + 1) rfl 37 #[Value.slice x.A g.img.length x.c, .int .i64 g.pg, .slice x.B g.wear.length x.d, .bool false, .int .i64 g.fuse, .slice x.P g.picks.length x.r] (0, 0) _ HBG.out.z.h4 Try.underlying37 rfl size60 ?_
            have r12 := HBG.out.z.row 12 rfl
            have r13 := HBG.out.z.row 13 rfl
            go_wp2_with (fail)
            clear r12 r13
            (with_reducible refine (HCF.out _ _ _ _ _ _ _ _ _ _ _ _ _).mono ?_)
            rintro e w7 ⟨rfl, hb7⟩
            have HY7 := Lib.hid (HBG.out.later hb7)
            have r10 := HY7.out.z.row 10 rfl
            have z10 := HY7.out.z.fz 10
            clear hb7
            go_upto_region 28 with (fail)
            clear r10 z10
            have HE7 : Hid (Bg X w (w7.setCell ⟨w.heap.size, 10, none⟩ (.int .i64 (at9 : Int))) #[Value.int .i64 s.first, .int .i64 s.blocks, .slice q.Q1 k q.c1, .slice q.Q2 k q.c2, .slice q.Q3 k q.c3, .int .i64 s.seq, .int .i64 s.block, .int .i64 s.slot, .slice Q8 k c8, .slice Q9 K c9, .int .i64 (at9 : Int), .int .i64 (-1), .int .i64 (s.block : Int), .int .i64 (j0 : Int), .bool false] #[Value.slice x.A g.img.length x.c, .int .i64 g.pg, .slice x.B g.wear.length x.d, .bool false, .int .i64 g.fuse, .slice x.P g.picks.length x.r] Q8 s.staged Q9 (encP (s.seq + 1) s.staged)) := HY7.out.set 10 (.int .i64 (at9 : Int))
            obtain ⟨V7, hV7⟩ : ∃ V, w7.setCell ⟨w.heap.size, 10, none⟩ (.int .i64 (at9 : Int)) = V := ⟨_, rfl⟩
            rw [hV7] at HE7
            try rw [hV7]
            clear hV7
            refine wp_region_list ?_
            refine wpList_load_row rfl 46 _ rfl w.heap.size rfl 46 #[Value.int .i64 s.first, .int .i64 s.blocks, .slice q.Q1 k q.c1, .slice q.Q2 k q.c2, .slice q.Q3 k q.c3, .int .i64 s.seq, .int .i64 s.block, .int .i64 s.slot, .slice Q8 k c8, .slice Q9 K c9, .int .i64 (at9 : Int), .int .i64 (-1), .int .i64 (s.block : Int), .int .i64 (j0 : Int), .bool false] (0, 0) _ HE7.out.z.h Try.underlying46 rfl size105 ?_
            obtain ⟨old8, ho8, hh8⟩ := HE7.out.z.h8
            refine wpList_store_row rfl 46 _ _ rfl (w.heap.size + 2) #[Value.int .i64 s.first, .int .i64 s.blocks, .slice q.Q1 k q.c1, .slice q.Q2 k q.c2, .slice q.Q3 k q.c3, .int .i64 s.seq, .int .i64 s.block, .int .i64 s.slot, .slice Q8 k c8, .slice Q9 K c9, .int .i64 (at9 : Int), .int .i64 (-1), .int .i64 (s.block : Int), .int .i64 (j0 : Int), .bool false] rfl rfl 46 old8 hh8 size105 ho8 (one15 ..) ?_
            go_wp2
            (try simp only [Exit.inBlock, Exit.then])
            refine bodyPost_ret (v := .tuple #[.agg #[Value.int .i64 s.first, .int .i64 s.blocks, .slice q.Q1 k q.c1, .slice q.Q2 k q.c2, .slice q.Q3 k q.c3, .int .i64 s.seq, .int .i64 s.block, .int .i64 s.slot, .slice Q8 k c8, .slice Q9 K c9, .int .i64 (at9 : Int), .int .i64 (-1), .int .i64 (s.block : Int), .int .i64 (j0 : Int), .bool false], .int .i64 0]) (results_row_tmp (p := 4) (u := 5) rfl _ _ (w.heap.size + 2) 46 #[Value.int .i64 s.first, .int .i64 s.blocks, .slice q.Q1 k q.c1, .slice q.Q2 k q.c2, .slice q.Q3 k q.c3, .int .i64 s.seq, .int .i64 s.block, .int .i64 s.slot, .slice Q8 k c8, .slice Q9 K c9, .int .i64 (at9 : Int), .int .i64 (-1), .int .i64 (s.block : Int), .int .i64 (j0 : Int), .bool false] (0, 0) _ rfl (setRow_heap _ _ _ _ _ _ hh8) Try.underlying46 rfl size105) rfl ⟨Q8, c8, Q9, c9, s.block, j0, (-1), by rw [HAT.out] <;> rfl, below_setRow HE7.out.z.below (by omega) _, HE7.out.fin1 _, HE7.out.fin2 _, HC8.out.1, HC8.out.2, HC9.out.1, HC9.out.2, .inl ⟨HJ0.out, rfl, rfl⟩⟩
          · have hlt2 : decide (t < T) = false := by simpa using hlt
            go_upto_region 27 with (fail)
            clear f1 r13 hlt2
            go_upto_region 27 with (fail)
            obtain ⟨at9, hat9⟩ : ∃ m, (s.first + s.block) * g.pg + j0 * K = m := ⟨_, rfl⟩
            have HAT := Lib.hid hat9
            have HCF := Lib.hid (HFV.out wr s.block j0 (by omega) (by omega))
            rw [hat9] at HCF
            clear hat9
            refine wp_region_list ?_
            refine wpList_load_row rfl 46 _ rfl w.heap.size rfl 46 #[Value.int .i64 s.first, .int .i64 s.blocks, .slice q.Q1 k q.c1, .slice q.Q2 k q.c2, .slice q.Q3 k q.c3, .int .i64 s.seq, .int .i64 s.block, .int .i64 s.slot, .slice Q8 k c8, .slice Q9 K c9, .int .i64 q.pg, .int .i64 (-1), .int .i64 (s.block : Int), .int .i64 (j0 : Int), .bool false] (0, 0) _ HBG.out.z.h Try.underlying46 rfl size105 ?_
            refine wpList_load_row rfl 37 _ rfl (w.heap.size + 1) rfl 37 #[Value.slice x.A g.img.length x.c, .int .i64 g.pg, .slice x.B g.wear.length x.d, .bool false, .int .i64 g.fuse, .slice x.P g.picks.length x.r] (0, 0) _ HBG.out.z.h4 Try.underlying37 rfl size60 ?_
            have r12 := HBG.out.z.row 12 rfl
            have r13 := HBG.out.z.row 13 rfl
            go_wp2_with (fail)
            clear r12 r13
            (with_reducible refine (HCF.out _ _ _ _ _ _ _ _ _ _ _ _ _).mono ?_)
            rintro e w7 ⟨rfl, hb7⟩
            have HY7 := Lib.hid (HBG.out.later hb7)
            have r10 := HY7.out.z.row 10 rfl
            have z10 := HY7.out.z.fz 10
            clear hb7
            go_upto_region 28 with (fail)
            clear r10 z10
            have HE7 : Hid (Bg X w (w7.setCell ⟨w.heap.size, 10, none⟩ (.int .i64 (at9 : Int))) #[Value.int .i64 s.first, .int .i64 s.blocks, .slice q.Q1 k q.c1, .slice q.Q2 k q.c2, .slice q.Q3 k q.c3, .int .i64 s.seq, .int .i64 s.block, .int .i64 s.slot, .slice Q8 k c8, .slice Q9 K c9, .int .i64 (at9 : Int), .int .i64 (-1), .int .i64 (s.block : Int), .int .i64 (j0 : Int), .bool false] #[Value.slice x.A g.img.length x.c, .int .i64 g.pg, .slice x.B g.wear.length x.d, .bool false, .int .i64 g.fuse, .slice x.P g.picks.length x.r] Q8 s.staged Q9 (encP (s.seq + 1) s.staged)) := HY7.out.set 10 (.int .i64 (at9 : Int))
            obtain ⟨V7, hV7⟩ : ∃ V, w7.setCell ⟨w.heap.size, 10, none⟩ (.int .i64 (at9 : Int)) = V := ⟨_, rfl⟩
            rw [hV7] at HE7
            try rw [hV7]
            clear hV7
            refine wp_region_list ?_
            refine wpList_load_row rfl 46 _ rfl w.heap.size rfl 46 #[Value.int .i64 s.first, .int .i64 s.blocks, .slice q.Q1 k q.c1, .slice q.Q2 k q.c2, .slice q.Q3 k q.c3, .int .i64 s.seq, .int .i64 s.block, .int .i64 s.slot, .slice Q8 k c8, .slice Q9 K c9, .int .i64 (at9 : Int), .int .i64 (-1), .int .i64 (s.block : Int), .int .i64 (j0 : Int), .bool false] (0, 0) _ HE7.out.z.h Try.underlying46 rfl size105 ?_
            obtain ⟨old8, ho8, hh8⟩ := HE7.out.z.h8
            refine wpList_store_row rfl 46 _ _ rfl (w.heap.size + 2) #[Value.int .i64 s.first, .int .i64 s.blocks, .slice q.Q1 k q.c1, .slice q.Q2 k q.c2, .slice q.Q3 k q.c3, .int .i64 s.seq, .int .i64 s.block, .int .i64 s.slot, .slice Q8 k c8, .slice Q9 K c9, .int .i64 (at9 : Int), .int .i64 (-1), .int .i64 (s.block : Int), .int .i64 (j0 : Int), .bool false] rfl rfl 46 old8 hh8 size105 ho8 (one15 ..) ?_
            go_wp2
            (try simp only [Exit.inBlock, Exit.then])
            refine bodyPost_ret (v := .tuple #[.agg #[Value.int .i64 s.first, .int .i64 s.blocks, .slice q.Q1 k q.c1, .slice q.Q2 k q.c2, .slice q.Q3 k q.c3, .int .i64 s.seq, .int .i64 s.block, .int .i64 s.slot, .slice Q8 k c8, .slice Q9 K c9, .int .i64 (at9 : Int), .int .i64 (-1), .int .i64 (s.block : Int), .int .i64 (j0 : Int), .bool false], .int .i64 0]) (results_row_tmp (p := 4) (u := 5) rfl _ _ (w.heap.size + 2) 46 #[Value.int .i64 s.first, .int .i64 s.blocks, .slice q.Q1 k q.c1, .slice q.Q2 k q.c2, .slice q.Q3 k q.c3, .int .i64 s.seq, .int .i64 s.block, .int .i64 s.slot, .slice Q8 k c8, .slice Q9 K c9, .int .i64 (at9 : Int), .int .i64 (-1), .int .i64 (s.block : Int), .int .i64 (j0 : Int), .bool false] (0, 0) _ rfl (setRow_heap _ _ _ _ _ _ hh8) Try.underlying46 rfl size105) rfl ⟨Q8, c8, Q9, c9, s.block, j0, (-1), by rw [HAT.out] <;> rfl, below_setRow HE7.out.z.below (by omega) _, HE7.out.fin1 _, HE7.out.fin2 _, HC8.out.1, HC8.out.2, HC9.out.1, HC9.out.2, .inl ⟨HJ0.out, rfl, rfl⟩⟩
end Go.Proofs.Ytjdknddnanopaaa
