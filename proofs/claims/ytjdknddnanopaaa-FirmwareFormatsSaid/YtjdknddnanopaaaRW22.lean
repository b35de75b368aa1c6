
/-
  The reference's flash: Erase.
-/
import Derived.Test.YtjdknddnanopaaaRW21
import Derived.Deep.DeepCutAuto
namespace Go.Proofs.Ytjdknddnanopaaa
open Go.RowKit
set_option linter.unusedVariables false

theorem own_i {w : World} {base e g n cap : Nat} {l : List Int} (hl : l.length = n) (h : w.ownsRow base e 1 (.slice (some ⟨g, 0, none⟩) n cap) n (icells l)) {k : Nat} {x : Int} (hx : l[k]? = some x) : w.cell? ⟨g, k, none⟩ = some (.int .i64 x) := by
  have := (List.getElem?_eq_some_iff.1 hx).1
  rw [h.cellAt k (by omega)]
  simp [icells, hx]
theorem own_set_i {w : World} {base e g n cap : Nat} {l : List Int} (h : w.ownsRow base e 1 (.slice (some ⟨g, 0, none⟩) n cap) n (icells l)) (k : Nat) (x : Int) :
    (w.setCell ⟨g, k, none⟩ (.int .i64 x)).ownsRow base e 1 (.slice (some ⟨g, 0, none⟩) n cap) n (icells (l.set k x)) := by
  have : icells (l.set k x) = (icells l).set k (.int .i64 x) := by simp [icells]
  rw [this]
  exact (h.stored k (.int .i64 x)).1
theorem own_base {w : World} {b b' e size n : Nat} {v : Value} {xs : List Value} (h : w.ownsRow b e size v n xs) (hb : b' ≤ b) : w.ownsRow b' e size v n xs := by
  rcases h.2 with h2 | ⟨g, cap, cur, h2, h3, h4⟩
  · exact ⟨h.1, .inl h2⟩
  · exact ⟨h.1, .inr ⟨g, cap, cur, h2, Nat.le_trans hb h3, h4⟩⟩

/-- Appending onto an empty slice that is not nil goes as onto nil, where something is appended. -/
theorem run_append_zero {P : Program} (w : World) (t ty e : TypeId) (i : TypeInfo) (z : Value) (size bytes : Nat) (ht : P.underlying t = some (.slice e)) (hi : P.info? e = some i) (hz : i.zero = some z)
    (hsize : i.size = size) (hby : i.bytes = bytes) (hzs : z.cells.size = size) (hsz : 0 < size)
    (q : Addr) (B : Nat) (A : Option Addr) (m c : Nat) (news : List Value) (hr : Rd w B A news) (hl : news.length = m * size) (h1 : ∀ u ∈ news, u.oneCell' = true) (hm : 0 < m)
    (h63 : m ≤ maxLen) (hbytes : m * bytes ≤ 140737488355328) :
    ∃ v' w', (Builtin.append_ #[t, t] ty #[.slice (some q) 0 0, .slice A m c]).run P w = .ok v' w' ∧ w'.ownsRow w.heap.size e size v' m news ∧ Below w.heap.size w w' := by
  subst hsize
  subst hby
  have hne : news ≠ [] := by
    rintro rfl
    have := Nat.mul_pos hm hsz
    rw [List.length_nil] at hl
    omega
  obtain ⟨b, off, rfl, hbB, hc⟩ := hr hne
  have hcells : ∀ j u, news[j]? = some u → w.cell? ((⟨b, off, none⟩ : Addr).add j) = some u := by
    intro j u hu
    rw [Addr.add_lit]
    exact hc j u hu
  have hm2 : m ≤ 9223372036854775807 := by simp only [maxLen] at h63; omega
  have hrun := run_append_grow (P := P) (w := w) t ty e i z ht hi hz q 0 0 [] (by simp) (fun j v hv => by simp at hv) ⟨b, off, none⟩ m c news hl hcells (by omega) (by omega) (growslice_fits (by omega) (by rw [Nat.zero_add]; exact hbytes))
  simp only [Nat.zero_add, Array.empty_append] at hrun
  refine ⟨_, _, hrun, ⟨hl, .inr ⟨w.heap.size, _, _, rfl, Nat.le_refl _, heap_alloc_new w.drew _, grownCap_ge w m 0 e, grownCap_le_maxLen w m 0 e h63, ?_, ?_⟩⟩, Below.alloc (Below.drew (Below.refl _ _)) (Nat.le_refl _) _⟩
  · have hge := grownCap_ge w m 0 e
    simp only [Array.size_append, List.size_toArray, size_zeroCells, hzs, hl, ← Nat.add_mul]
    congr 1
    omega
  · simp only [Array.toList_append]
    rw [← hl]
    simp

theorem step_append_zero {P : Program} {ops : Array Oper} {o : Oper} {a : Act} {w : World} {K : Act → World → Prop} {Q : Exit → Act → World → Prop} {E : Prop}
    (hg : o.guard = none) (s x : Operand) (t : TypeId) (ho : o.op = .call { callee := .builtin .append, args := #[s, x], argTypes := #[t, t] })
    (e : TypeId) (i : TypeInfo) (z : Value) (size bytes : Nat) (ht : P.underlying t = some (.slice e)) (hi : P.info? e = some i) (hz : i.zero = some z)
    (hsize : i.size = size) (hby : i.bytes = bytes) (hzs : z.cells.size = size) (hsz : 0 < size)
    (q : Addr) (hs : a.eval s = .slice (some q) 0 0)
    (B : Nat) (A : Option Addr) (m c : Nat) (news : List Value) (hx : a.eval x = .slice A m c) (hr : Rd w B A news) (hl : news.length = m * size) (h1 : ∀ u ∈ news, u.oneCell' = true) (hm : 0 < m)
    (h63 : m ≤ maxLen) (hbytes : m * bytes ≤ 140737488355328)
    (h : ∀ v' w', w'.ownsRow w.heap.size e size v' m news → Below w.heap.size w w' → K (a.put o.dst v') w') :
    if Region.wanted o (yielded ops a.tmps) = true then Oper.wp P o a w K Q else E := by
  have hw : Region.wanted o (yielded ops a.tmps) = true := by simp [Region.wanted, hg]
  rw [if_pos hw]
  obtain ⟨v', w', hrun, h2, h3⟩ := run_append_zero (P := P) w t o.type e i z size bytes ht hi hz hsize hby hzs hsz q B A m c news hr hl h1 hm h63 hbytes
  unfold Oper.wp execOp
  simp only [ho, resolve, invoke, builtin, Sem.run_bind, Sem.run_pure, Result.andThen_ok, List.map_toArray, List.map_cons, List.map_nil, hs, hx, hrun]
  exact h v' w' h2 h3

set_option maxRecDepth 100000 in
set_option maxHeartbeats 8000000 in
theorem eraseR_any {X : Nat → Prop} {w : World} {x : Rc} {g : Fl} (h : RAt X w x g) (hX : ∀ b, X b → b < w.heap.size) (block : Int) :
    Calls Try.prog 69 #[x.v g, .int .i64 block] w fun e w' => ∃ y : Rc, e = .returned (.tuple #[y.v (eraseF g block).1, .int .i64 (eraseF g block).2]) ∧ RAt X w' y (eraseF g block).1 ∧ Below w.heap.size w w' := by
  have hok := eraseF_ok (block := block) h.ok
  have H := Lib.hid h
  have HX := Lib.hid hX
  have hd2 := h.b2
  have hwl := h.ok.b2
  unfold maxLen at hd2
  obtain ⟨A, c, B, d, P, r⟩ := x
  simp only at hd2
  show Calls Try.prog 69 #[.agg #[.slice A g.img.length c, .int .i64 g.pg, .slice B g.wear.length d, .bool g.down, .int .i64 g.fuse, .slice P g.picks.length r], _] w _
  obtain ⟨V, hV⟩ : ∃ V, (w.alloc (.cells #[.slice A g.img.length c, .int .i64 g.pg, .slice B g.wear.length d, .bool g.down, .int .i64 g.fuse, .slice P g.picks.length r] 37)).alloc (.cells #[.slice none 0 0, .int .i64 0, .slice none 0 0, .bool false, .int .i64 0, .slice none 0 0] 37) = V := ⟨_, rfl⟩
  have HBV : Hid (Below w.heap.size w V) := by rw [← hV]; exact below_two _ _ _
  have h6 := two_six w (.slice A g.img.length c) (.int .i64 g.pg) (.slice B g.wear.length d) (.bool g.down) (.int .i64 g.fuse) (.slice P g.picks.length r) (.slice none 0 0) (.int .i64 0) (.slice none 0 0) (.bool false) (.int .i64 0) (.slice none 0 0) 37 37
  rw [hV] at h6
  have H6 := Lib.hid h6
  have hgV : w.heap.size + 1 < V.heap.size := h6.2.lt
  unfold eraseF
  by_cases hd : g.down = true
  · rw [if_pos hd]
    have hdn : g.down = true := hd
    clear h hX h6 hok hd
    obtain ⟨a0, a1, a2, a3, a4, a5, a6⟩ := H6.out.1
    obtain ⟨b0, b1, b2, b3, b4, b5, b6⟩ := H6.out.2
    have e0 := b6 0
    have e1 := b6 1
    have e2 := b6 2
    have e3 := b6 3
    have e4 := b6 4
    have e5 := b6 5
    clear a6 b6
    go_enter Try.func69, Try.ntmps69
    go_upto_region 1 with (fail)
    try rw [hV]
    clear hV
    go_wp2
    (try simp only [Exit.inBlock, Exit.then])
    refine bodyPost_ret (v := .tuple #[(Rc.mk A c B d P r).v g, .int .i64 20]) ?_ rfl ⟨⟨A, c, B, d, P, r⟩, rfl, RAt.weak (X := X2 X w.heap.size) ?_ (fun _ => .inl), ?_⟩
    · rw [results_cell_tmp rfl]
      simp only [Rc.v]
      go_simp
    · (repeat (refine RAt.setCell ?_ _ _ (by first | exact x2_zero _ _ | exact x2_one _ _)))
      exact H.out.two.below (below_two _ _ _)
    · (repeat (refine Below.setCell ?_ (by simp only; omega) _))
      exact below_two _ _ _

  rw [if_neg hd]
  by_cases hout : block < 0 ∨ (g.wear.length : Nat) ≤ block
  · rw [if_pos hout]
    have hdn : g.down = false := by simpa using hd
    by_cases hneg : block < 0
    · clear h hX h6 hok hd hout
      obtain ⟨a0, a1, a2, a3, a4, a5, a6⟩ := H6.out.1
      obtain ⟨b0, b1, b2, b3, b4, b5, b6⟩ := H6.out.2
      have e0 := b6 0
      have e1 := b6 1
      have e2 := b6 2
      have e3 := b6 3
      have e4 := b6 4
      have e5 := b6 5
      clear a6 b6
      go_enter Try.func69, Try.ntmps69
      go_upto_region 1 with (fail)
      try rw [hV]
      clear hV
      go_wp2
      (try simp only [Exit.inBlock, Exit.then])
      refine bodyPost_ret (v := .tuple #[(Rc.mk A c B d P r).v g, .int .i64 10]) ?_ rfl ⟨⟨A, c, B, d, P, r⟩, rfl, RAt.weak (X := X2 X w.heap.size) ?_ (fun _ => .inl), ?_⟩
      · rw [results_cell_tmp rfl]
        simp only [Rc.v]
        go_simp
      · (repeat (refine RAt.setCell ?_ _ _ (by first | exact x2_zero _ _ | exact x2_one _ _)))
        exact H.out.two.below (below_two _ _ _)
      · (repeat (refine Below.setCell ?_ (by simp only; omega) _))
        exact below_two _ _ _

    · have hge : (g.wear.length : Int) ≤ block := by omega
      have hneg' : decide (block < 0) = false := by simpa using hneg
      clear h hX h6 hok hd hout hneg
      obtain ⟨a0, a1, a2, a3, a4, a5, a6⟩ := H6.out.1
      obtain ⟨b0, b1, b2, b3, b4, b5, b6⟩ := H6.out.2
      have e0 := b6 0
      have e1 := b6 1
      have e2 := b6 2
      have e3 := b6 3
      have e4 := b6 4
      have e5 := b6 5
      clear a6 b6
      go_enter Try.func69, Try.ntmps69
      go_upto_region 1 with (fail)
      try rw [hV]
      clear hV
      go_wp2
      (try simp only [Exit.inBlock, Exit.then])
      refine bodyPost_ret (v := .tuple #[(Rc.mk A c B d P r).v g, .int .i64 10]) ?_ rfl ⟨⟨A, c, B, d, P, r⟩, rfl, RAt.weak (X := X2 X w.heap.size) ?_ (fun _ => .inl), ?_⟩
      · rw [results_cell_tmp rfl]
        simp only [Rc.v]
        go_simp
      · (repeat (refine RAt.setCell ?_ _ _ (by first | exact x2_zero _ _ | exact x2_one _ _)))
        exact H.out.two.below (below_two _ _ _)
      · (repeat (refine Below.setCell ?_ (by simp only; omega) _))
        exact below_two _ _ _

  have hdn : g.down = false := by simpa using hd
  obtain ⟨bk, rfl⟩ : ∃ p : Nat, block = (p : Int) := ⟨block.toNat, by omega⟩
  have hbk : bk < g.wear.length := by omega
  simp only [Int.toNat_natCast]
  have hil := h.img_len
  have hlen := h.ok.len
  have hp1 := h.ok.p1
  have hp2 := h.ok.p2
  obtain ⟨R, hR⟩ : ∃ R, (if (cutF g).2 = true then (({ (cutF g).1 with img := lay g.img (64 * g.pg * bk) (torn ((g.img.drop (64 * g.pg * bk)).take (64 * g.pg)) g.picks), wear := bumpF g.wear bk } : Fl), (20 : Int)) else ({ (cutF g).1 with img := lay g.img (64 * g.pg * bk) (List.replicate (64 * g.pg) 255), wear := bumpF g.wear bk }, 0)) = R := ⟨_, rfl⟩
  have hpr : eraseF g (bk : Int) = R := by
    unfold eraseF
    rw [if_neg hd, if_neg hout]
    simp only [Int.toNat_natCast]
    exact hR
  rw [hpr] at hok
  rw [hR]
  have HROK := Lib.hid hok
  have HR := Lib.hid hR
  have HBN := Lib.hid (burn_any (h.below HBV.out))
  rw [cut_v] at HBN
  have HSM := Lib.hid (cutF_same g)
  obtain ⟨NI, hNI⟩ : ∃ n, g.img.length = n := ⟨_, rfl⟩
  obtain ⟨NW, hNW⟩ : ∃ n, g.wear.length = n := ⟨_, rfl⟩
  have HNI := Lib.hid hNI
  have HNW := Lib.hid hNW
  have HLEN := Lib.hid hlen
  rw [hNW] at hbk hwl
  rw [hNI] at hil
  obtain ⟨a0, a1, a2, a3, a4, a5, _⟩ := h6.1
  have hneg' : decide ((bk : Int) < 0) = false := by simp
  have hge' : decide (NW ≤ bk) = false := by simp; omega
  have HBNn := HBN
  rw [Rc.v, hNI, hNW, hdn] at HBNn
  rw [hdn] at hV a3
  clear h hX h6 hok hd hout hpr hR hNI hNW hlen HBN
  obtain ⟨M, hM⟩ : ∃ M, 64 * g.pg = M := ⟨_, rfl⟩
  obtain ⟨Z, hZ⟩ : ∃ Z, M * bk = Z := ⟨_, rfl⟩
  have hM1 : 64 ≤ M := by omega
  have hM2 : M ≤ 1024 := by omega
  have hae : Z + M ≤ NI := by
    have h1 : M * bk + M ≤ M * NW := by
      have := Nat.mul_le_mul_left M (by omega : bk + 1 ≤ NW)
      rw [Nat.mul_add, Nat.mul_one] at this
      exact this
    have h2 := HLEN.out
    rw [HNI.out, HNW.out, show NW * g.pg * 64 = M * NW by rw [← hM, Nat.mul_comm (64 * g.pg), Nat.mul_assoc, Nat.mul_comm g.pg 64]] at h2
    omega
  have x1 : (64 : Int) * (g.pg : Int) = (M : Int) := by omega
  have x2 : (M : Int) * (bk : Int) = (Z : Int) := by rw [← hZ]; push_cast; rfl
  have HM0 := Lib.hid hM
  have HZ0 := Lib.hid hZ
  rw [hM, hZ] at HR
  clear hM hZ
  rw [HNI.out, HNW.out, hdn]
  rw [HNI.out] at a0 hV
  rw [HNW.out] at a2 hV
  clear hdn
  go_enter Try.func69, Try.ntmps69
  go_wp2_with (fail)
  try rw [hV]
  clear hV a0 a1 a2 a3 a4 a5
  (with_reducible refine HBNn.out.mono ?_)
  rintro e w3 ⟨rfl, hb3⟩
  have HB3 : Hid (Below w.heap.size w w3) := HBV.out.trans (hb3.mono HBV.out.size)
  have H63 := Lib.hid (H6.out.1.below hb3 (by omega))
  have H64 := Lib.hid (H6.out.2.below hb3 (by omega))
  have HC3 : Hid (RAt (X2 X w.heap.size) w3 ⟨A, c, B, d, P, r⟩ (cutF g).1) := H.out.cut.two.below HB3.out
  rw [HNI.out, HNW.out] at H63
  clear hb3 HBNn H6
  obtain ⟨g', hg'⟩ : ∃ g', (cutF g).1 = g' := ⟨_, rfl⟩
  obtain ⟨fails, hfl⟩ : ∃ z, (cutF g).2 = z := ⟨_, rfl⟩
  rw [hg', hfl] at HR
  rw [hg'] at HC3 HSM
  rw [hg', hfl]
  clear hg' hfl
  obtain ⟨W3, hW3⟩ : ∃ W, put6 w3 w.heap.size (.slice A NI c) (.int .i64 g.pg) (.slice B NW d) (.bool g'.down) (.int .i64 g'.fuse) (.slice P g.picks.length r) = W := ⟨_, rfl⟩
  have HBW : Hid (Below w.heap.size w W3) := by rw [← hW3]; exact below_put6 HB3.out (Nat.le_refl _) _ _ _ _ _ _
  have HCW : Hid (RAt (X2 X w.heap.size) W3 ⟨A, c, B, d, P, r⟩ g') := by rw [← hW3]; exact HC3.out.put6 (x2_zero _ _) _ _ _ _ _ _
  have H6A : Hid (six W3 w.heap.size (.slice A NI c) (.int .i64 g.pg) (.slice B NW d) (.bool g'.down) (.int .i64 g'.fuse) (.slice P g.picks.length r)) := by rw [← hW3]; exact H63.out.put _ _ _ _ _ _
  have H6B : Hid (six W3 (w.heap.size + 1) (.slice none 0 0) (.int .i64 0) (.slice none 0 0) (.bool false) (.int .i64 0) (.slice none 0 0)) := by rw [← hW3]; exact H64.out.far (by omega) _ _ _ _ _ _
  have hgW : w.heap.size + 1 < W3.heap.size := H6B.out.lt
  unfold put6 at hW3
  obtain ⟨a0, a1, a2, a3, a4, a5, a6⟩ := H63.out
  have f0 := a6 0
  have f1 := a6 1
  have f2 := a6 2
  have f3 := a6 3
  have f4 := a6 4
  have f5 := a6 5
  clear a6
  go_upto_region 6 with (fail)
  try rw [hW3]
  clear hW3 a0 a1 a2 a3 a4 a5 f0 f1 f2 f3 f4 f5 H63 H64 HC3 HB3
  have HKL : Hid ((kcells .u8 g.img).length = NI * 1) := by rw [Hid, kcells_length, HNI.out, Nat.mul_one]
  have HKW : Hid ((icells g.wear).length = NW * 1) := by rw [Hid, icells_length, HNW.out, Nat.mul_one]
  obtain ⟨i5, hi5, hz50, hz51, hz52⟩ := info_parts info5
  obtain ⟨i3, hi3, hz30, hz31, hz32⟩ := info_parts info3
  have hNI0 : 0 < NI := by
    have := HLEN.out
    rw [HNI.out, HNW.out] at this
    have := Nat.mul_le_mul (show 1 ≤ NW by omega) hp1
    omega
  have hNW0 : 0 < NW := by omega
  have u0 := H6A.out.1
  have u2 := H6A.out.2.2.1
  have hkk : ∀ w' : World, Below W3.heap.size W3 w' → w'.cell? ⟨w.heap.size, 0, none⟩ = some (.slice A NI c) ∧ w'.cell? ⟨w.heap.size, 2, none⟩ = some (.slice B NW d) ∧ Below W3.heap.size W3 w' := fun w' hb => ⟨(hb.cell (p := ⟨w.heap.size, 0, none⟩) (by simp only; omega)).trans u0, (hb.cell (p := ⟨w.heap.size, 2, none⟩) (by simp only; omega)).trans u2, hb⟩
  have HKK := Lib.hid hkk
  have HRI : Hid (∀ w' : World, (w'.cell? ⟨w.heap.size, 0, none⟩ = some (.slice A NI c) ∧ w'.cell? ⟨w.heap.size, 2, none⟩ = some (.slice B NW d) ∧ Below W3.heap.size W3 w') → Rd w' w.heap.size A (kcells .u8 g.img)) := fun w' h => H.out.a.rd.below (HBW.out.trans (h.2.2.mono HBW.out.size)) (Nat.le_refl _)
  have HRW : Hid (∀ w' : World, (w'.cell? ⟨w.heap.size, 0, none⟩ = some (.slice A NI c) ∧ w'.cell? ⟨w.heap.size, 2, none⟩ = some (.slice B NW d) ∧ Below W3.heap.size W3 w') → Rd w' w.heap.size B (icells g.wear)) := fun w' h => H.out.b.rd.below (HBW.out.trans (h.2.2.mono HBW.out.size)) (Nat.le_refl _)
  have HSA : Hid (∀ (w' : World) (o : Obj), (w'.cell? ⟨w.heap.size, 0, none⟩ = some (.slice A NI c) ∧ w'.cell? ⟨w.heap.size, 2, none⟩ = some (.slice B NW d) ∧ Below W3.heap.size W3 w') → (w'.alloc o).cell? ⟨w.heap.size, 0, none⟩ = some (.slice A NI c) ∧ (w'.alloc o).cell? ⟨w.heap.size, 2, none⟩ = some (.slice B NW d) ∧ Below W3.heap.size W3 (w'.alloc o)) := fun w' o h => HKK.out _ (h.2.2.alloc h.2.2.size o)
  have HSB : Hid (∀ (w' w'' : World), (w'.cell? ⟨w.heap.size, 0, none⟩ = some (.slice A NI c) ∧ w'.cell? ⟨w.heap.size, 2, none⟩ = some (.slice B NW d) ∧ Below W3.heap.size W3 w') → Below w'.heap.size w' w'' → w''.cell? ⟨w.heap.size, 0, none⟩ = some (.slice A NI c) ∧ w''.cell? ⟨w.heap.size, 2, none⟩ = some (.slice B NW d) ∧ Below W3.heap.size W3 w'') := fun w' w'' h hb => HKK.out _ (h.2.2.trans (hb.mono h.2.2.size))
  clear hkk u0 u2
  have HSZ : Hid (∀ w' : World, (w'.cell? ⟨w.heap.size, 0, none⟩ = some (.slice A NI c) ∧ w'.cell? ⟨w.heap.size, 2, none⟩ = some (.slice B NW d) ∧ Below W3.heap.size W3 w') → W3.heap.size ≤ w'.heap.size) := fun w' h => h.2.2.size
  go_cut [7, 8] (fun s t wx => ∃ g7 c7 g8 c8, s = .slice (some ⟨g7, 0, none⟩) NI c7 ∧ t = .slice (some ⟨g8, 0, none⟩) NW c8 ∧ NI ≤ c7 ∧ c7 ≤ maxLen ∧ NW ≤ c8 ∧ c8 ≤ maxLen ∧ g7 ≠ g8 ∧ W3.heap.size ≤ g7 ∧ W3.heap.size ≤ g8 ∧
    wx.ownsRow W3.heap.size 5 1 (.slice (some ⟨g7, 0, none⟩) NI c7) NI (kcells .u8 g.img) ∧ wx.ownsRow W3.heap.size 3 1 (.slice (some ⟨g8, 0, none⟩) NW c8) NW (icells g.wear) ∧ Below W3.heap.size W3 wx)
  case first =>
    go_region_held3 (fun w' => w'.cell? ⟨w.heap.size, 0, none⟩ = some (.slice A NI c) ∧ w'.cell? ⟨w.heap.size, 2, none⟩ = some (.slice B NW d) ∧ Below W3.heap.size W3 w') (first | exact HKK.out _ (Below.drew (Below.refl _ _)) | exact HSA.out _ _ (by assumption) | exact hS8 | exact hS9) (first
      | (refine step_append_zero rfl _ _ 22 rfl 5 i5 (.int .u8 0) 1 1 Try.underlying22 hi5 hz50 hz51 hz52 rfl (by omega) _ rfl w.heap.size _ NI _ (kcells .u8 g.img) rfl (HRI.out _ (by assumption)) HKL.out (kcells_one _ _) hNI0 (by unfold maxLen; omega) (by omega) ?_; intro v8 w8 ho8 hb8; have hS8 := HSB.out _ w8 (by assumption) hb8; have hO8 : w8.ownsRow W3.heap.size 5 1 v8 NI (kcells .u8 g.img) := own_base ho8 (HSZ.out _ (by assumption)); clear ho8; obtain ⟨A8, c8, rfl, hc81, hc82, hg8⟩ := own_form hO8; obtain ⟨g8, rfl, hg81, hg82⟩ := hg8 hNI0)
      | (refine step_append_zero rfl _ _ 35 rfl 3 i3 (.int .i64 0) 1 8 Try.underlying35 hi3 hz30 hz31 hz32 rfl (by omega) _ rfl w.heap.size _ NW _ (icells g.wear) rfl (HRW.out _ (by assumption)) HKW.out (icells_one _) hNW0 (by unfold maxLen; omega) (by omega) ?_; intro v9 w9 ho9 hb9; have hS9 := HSB.out _ w9 (by assumption) hb9; have hO9 : w9.ownsRow W3.heap.size 3 1 v9 NW (icells g.wear) := own_base ho9 (HSZ.out _ (by assumption)); have hO89 : w9.ownsRow W3.heap.size 5 1 (.slice (some ⟨g8, 0, none⟩) NI c8) NI (kcells .u8 g.img) := (by first | exact own_below hO8 hb9 | exact own_below (own_below hO8 (below_one w8 _)) hb9); clear ho9; obtain ⟨A9, c9, rfl, hc91, hc92, hg9⟩ := own_form hO9; obtain ⟨g9, rfl, hg91, hg92⟩ := hg9 hNW0))
    all_goals
      (try go_wp2_with fail)
      go_meet
      exact ⟨g8, c8, g9, c9, rfl, rfl, hc81, hc82, hc91, hc92, fun e => own_ne_own hO89 hO9 (by decide) g8 rfl (by rw [e]; rfl), hg81, hg91, hO89, hO9, hS9.2.2⟩
  case rest =>
    obtain ⟨g7, c7, g8, c8, rfl, rfl, h71, h72, h81, h82, h78, hg7, hg8, ho7, ho8, hbc⟩ := hcut
    clear HKK HRI HRW HSA HSB HSZ HKL HKW
    unfold maxLen at h72 h82
    obtain ⟨b', hb'⟩ : ∃ b', (if fails = true then torn ((g.img.drop Z).take M) g.picks else List.replicate M 255) = b' := ⟨_, rfl⟩
    have hbl : b'.length = M := by
      rw [← hb']
      split
      · rw [torn_length, List.length_take, List.length_drop, HNI.out]; omega
      · rw [List.length_replicate]
    have HB' := Lib.hid hb'
    have HBL' := Lib.hid hbl
    have HO7 := Lib.hid ho7
    have HO8 := Lib.hid ho8
    have HBC := Lib.hid hbc
    have p1c : wc.cell? ⟨w.heap.size, 1, none⟩ = some (.int .i64 g.pg) := (hbc.cell (p := ⟨w.heap.size, 1, none⟩) (by simp only; omega)).trans H6A.out.2.1
    clear ho7 ho8 hbc hb' hbl
    go_wp2
    go_loopw [40] (fun i wr => ∃ j : Nat, j ≤ M ∧ i = .int .i64 j ∧ wr.ownsRow W3.heap.size 5 1 (.slice (some ⟨g7, 0, none⟩) NI c7) NI (kcells .u8 (lay g.img Z (b'.take j))) ∧ wr.ownsRow W3.heap.size 3 1 (.slice (some ⟨g8, 0, none⟩) NW c8) NW (icells g.wear) ∧ Below W3.heap.size W3 wr) (fun i _ => M - (intOf i).toNat)
    case atStart => exact ⟨0, by omega, rfl, by rw [List.take_zero, lay_nil]; exact HO7.out, HO8.out, HBC.out⟩
    case round =>
      obtain ⟨j, hj, rfl, ho, how, hb⟩ := hrel
      have HOj := Lib.hid ho
      have HWj := Lib.hid how
      have HBj := Lib.hid hb
      have HBw : Hid (Below w.heap.size w wr) := HBW.out.trans (HBj.out.mono HBW.out.size)
      clear ho how hb p1c
      have p1r : wr.cell? ⟨w.heap.size, 1, none⟩ = some (.int .i64 g.pg) := (HBj.out.cell (p := ⟨w.heap.size, 1, none⟩) (by simp only; omega)).trans H6A.out.2.1
      by_cases hlt : j < M
      · obtain ⟨y, hy⟩ := getElem?_of_lt (l := b') (k := j) (by rw [HBL'.out]; exact hlt)
        obtain ⟨z, hz⟩ := getElem?_of_lt (l := g.img) (k := Z + j) (by rw [HNI.out]; omega)
        have hz2 : (lay g.img Z (b'.take j))[Z + j]? = some z := by
          rw [lay_get _ _ _ (by rw [List.length_take, HBL'.out, HNI.out]; omega), List.length_take, HBL'.out, if_neg (by omega)]
          exact hz
        have hll : (lay g.img Z (b'.take j)).length = NI := by rw [lay_length _ _ _ (by rw [List.length_take, HBL'.out, HNI.out]; omega), HNI.out]
        have k1 : (0 : Int) ≤ (Z : Int) + (j : Int) := by omega
        have k2 : (Z : Int) + (j : Int) < (NI : Int) := by omega
        have k3 : ((Z : Int) + (j : Int)).toNat = Z + j := by omega
        have HST : Hid ((lay g.img Z (b'.take j)).set (Z + j) y = lay g.img Z (b'.take (j + 1))) := lay_step (by rw [HBL'.out, HNI.out]; exact hae) hy
        cases hfl : fails with
        | false =>
          have hy255 : y = 255 := by
            have h1 := HB'.out
            rw [hfl, if_neg (by simp)] at h1
            rw [← h1, List.getElem?_replicate, if_pos hlt] at hy
            exact (Option.some.inj hy).symm
          subst hy255
          have e0 := own_k hll HOj.out hz2
          have e1 : wr.frozen? ⟨g7, Z + j, none⟩ = false := HOj.out.frozenAt _
          have n1 := own_set_k HOj.out (Z + j) 255
          rw [HST.out] at n1
          have HN1 := Lib.hid n1
          have HN3 := Lib.hid (ownsRow_setCell_other HWj.out (a := ⟨g7, Z + j, none⟩) (by simpa [Value.ownBlock] using fun e => h78 e.symm) (.int .u8 255))
          have HN2 : Hid (Below W3.heap.size W3 _) := HBj.out.setCell (p := ⟨g7, Z + j, none⟩) hg7 (.int .u8 255)
          clear hy hz hz2 n1 hll
          go_wp2
          go_roundw
          case rel => exact ⟨j + 1, by omega, by go_num, HN1.out, HN3.out, HN2.out⟩
          case measure => simp [intOf]; omega
        | true =>
          have HXY : Hid (bits .or .u8 z (pickF g.picks j) = y) := by
            have h1 := HB'.out
            rw [hfl, if_pos rfl] at h1
            rw [← h1, torn_get, List.getElem?_take, if_pos hlt, List.getElem?_drop, hz] at hy
            show _ = _
            simpa [orB] using hy
          have HPK := Lib.hid (pickR_any (HCW.out.below (HBj.out.trans (Below.drew (Below.refl _ _)))) j (by omega))
          simp only [HSM.out.2.2.2] at HPK
          rw [Rc.v, HSM.out.1, HSM.out.2.1, HSM.out.2.2.1, HSM.out.2.2.2, HNI.out, HNW.out] at HPK
          obtain ⟨a0, a1, a2, a3, a4, a5, _⟩ := H6A.out.below HBj.out (by omega)
          have e0 := own_k hll HOj.out hz2
          have e1 : wr.frozen? ⟨g7, Z + j, none⟩ = false := HOj.out.frozenAt _
          have hxy := HXY.out
          have HZ2 := Lib.hid hz2
          have HLL := Lib.hid hll
          clear hy hz hz2 hll
          generalize pickF g.picks j = pk at *
          have hpk := HPK.out
          simp only at hpk
          have HPK2 := Lib.hid hpk
          clear hpk HPK
          go_upto_region 12 with (fail)
          go_region_with (go_at_call 112; with_reducible refine HPK2.out.mono ?_; rintro e w5 ⟨rfl, hb5⟩; have ho5 := own_below (own_below HOj.out (Below.drew (Below.refl _ _))) hb5; have e0' := own_k HLL.out ho5 HZ2.out; have e1' : w5.frozen? ⟨g7, Z + j, none⟩ = false := ho5.frozenAt _)
          all_goals
            have HOW5 := Lib.hid (own_below (own_below HWj.out (Below.drew (Below.refl _ _))) hb5)
            have HB5 := Lib.hid ((Below.drew HBj.out).trans (hb5.mono HBj.out.size))
            have HO5 := Lib.hid ho5
            clear hb5 ho5
            have n1 := own_set_k HO5.out (Z + j) y
            rw [HST.out] at n1
            have HN1 := Lib.hid n1
            have HN3 := Lib.hid (ownsRow_setCell_other HOW5.out (a := ⟨g7, Z + j, none⟩) (by simpa [Value.ownBlock] using fun e => h78 e.symm) (.int .u8 y))
            have HN2 : Hid (Below W3.heap.size W3 _) := HB5.out.setCell (p := ⟨g7, Z + j, none⟩) hg7 (.int .u8 y)
            clear n1
            go_wp2
            go_roundw
            case rel => exact ⟨j + 1, by omega, by go_num, HN1.out, HN3.out, HN2.out⟩
            case measure => simp [intOf]; omega
      · have hjn : M = j := by omega
        subst hjn
        have hfin := HOj.out
        rw [List.take_of_length_le (by rw [HBL'.out]; exact Nat.le_refl _), ← HB'.out] at hfin
        have hq := HR.out
        clear p1r
        cases hfl : fails with
        | false =>
          rw [hfl, if_neg (by simp)] at hfin hq
          subst hq
          have hll : (lay g.img Z (List.replicate M 255)).length = NI := by
            rw [lay_length _ _ _ (by rw [List.length_replicate, HNI.out]; exact hae), HNI.out]
          have HLL := Lib.hid hll
          obtain ⟨u, hu⟩ := getElem?_of_lt (l := g.wear) (k := bk) (by rw [HNW.out]; exact hbk)
          have dn := own_i HNW.out HWj.out hu
          have df : wr.frozen? ⟨g8, bk, none⟩ = false := HWj.out.frozenAt _
          have HBU : Hid (g.wear.set bk (wrap64 (u + 1)) = bumpF g.wear bk) := by
            show _ = _
            unfold bumpF
            rw [hu]
            rfl
          have hw2 := own_set_i HWj.out bk (wrap64 (u + 1))
          rw [HBU.out] at hw2
          have hx2 := ownsRow_setCell_other hfin (a := ⟨g8, bk, none⟩) (by simpa [Value.ownBlock] using fun e => h78 e) (.int .i64 (wrap64 (u + 1)))
          have HWB : Hid ((bumpF g.wear bk).length = NW) := by rw [Hid, bumpF_length]; exact HNW.out
          have hb2 := HBj.out.setCell (p := ⟨g8, bk, none⟩) hg8 (.int .i64 (wrap64 (u + 1)))
          have hcw := HCW.out.below hb2
          have HRES : Hid (RAt (X2 X w.heap.size) (wr.setCell ⟨g8, bk, none⟩ (.int .i64 (wrap64 (u + 1)))) ⟨some ⟨g7, 0, none⟩, c7, some ⟨g8, 0, none⟩, c8, P, r⟩ { g' with img := (lay g.img Z (List.replicate M 255)), wear := bumpF g.wear bk }) :=
            ⟨HROK.out, RdX.new (x2_lt HX.out hgW) (Nat.le_refl _) (by rw [kcells_length]; exact hll) hx2, by simp only [hll]; exact h71, by unfold maxLen; exact h72, RdX.new (x2_lt HX.out hgW) (Nat.le_refl _) (by rw [icells_length]; exact HWB.out) hw2, by simp only [HWB.out]; exact h81, by unfold maxLen; exact h82, hcw.p, hcw.p1, hcw.p2⟩
          obtain ⟨a0, a1, a2, a3, a4, a5, a6⟩ := H6A.out.below hb2 (by omega)
          obtain ⟨b0, b1, b2, b3, b4, b5, b6⟩ := H6B.out.below hb2 (by omega)
          have f0 := a6 0
          have f2 := a6 2
          have e0 := b6 0
          have e1 := b6 1
          have e2 := b6 2
          have e3 := b6 3
          have e4 := b6 4
          have e5 := b6 5
          have HB2 : Hid (Below w.heap.size w (wr.setCell ⟨g8, bk, none⟩ (.int .i64 (wrap64 (u + 1))))) := HBW.out.trans (hb2.mono HBW.out.size)
          obtain ⟨WF, hWF⟩ : ∃ W, wr.setCell ⟨g8, bk, none⟩ (.int .i64 (wrap64 (u + 1))) = W := ⟨_, rfl⟩
          rw [hWF] at HRES HB2 a0 a1 a2 a3 a4 a5 b0 b1 b2 b3 b4 b5 f0 f2 e0 e1 e2 e3 e4 e5
          clear a6 b6 hfin hll hcw hb2 hu hw2 hx2 HBU
          go_upto_region 16 with (fail)
          try rw [hWF]
          clear hWF dn df
          go_wp2
          (try simp only [Exit.inBlock, Exit.then])
          refine bodyPost_ret (v := .tuple #[.agg #[.slice (some ⟨g7, 0, none⟩) NI c7, .int .i64 g.pg, .slice (some ⟨g8, 0, none⟩) NW c8, .bool g'.down, .int .i64 g'.fuse, .slice P g.picks.length r], .int .i64 0]) ?_ rfl ⟨⟨some ⟨g7, 0, none⟩, c7, some ⟨g8, 0, none⟩, c8, P, r⟩, by simp only [Rc.v, HSM.out.1, HWB.out, HSM.out.2.2.2, HLL.out], RAt.weak (X := X2 X w.heap.size) ?_ (fun _ => .inl), ?_⟩
          · rw [results_cell_tmp rfl]
            go_simp
          · (repeat (refine RAt.setCell ?_ _ _ (by first | exact x2_zero _ _ | exact x2_one _ _)))
            exact HRES.out
          · (repeat (refine Below.setCell ?_ (by simp only; omega) _))
            exact HB2.out
        | true =>
          rw [hfl, if_pos rfl] at hfin hq
          subst hq
          have hll : (lay g.img Z (torn ((g.img.drop Z).take M) g.picks)).length = NI := by
            rw [lay_length _ _ _ (by rw [torn_length, List.length_take, List.length_drop, HNI.out]; omega), HNI.out]
          have HLL := Lib.hid hll
          obtain ⟨u, hu⟩ := getElem?_of_lt (l := g.wear) (k := bk) (by rw [HNW.out]; exact hbk)
          have dn := own_i HNW.out HWj.out hu
          have df : wr.frozen? ⟨g8, bk, none⟩ = false := HWj.out.frozenAt _
          have HBU : Hid (g.wear.set bk (wrap64 (u + 1)) = bumpF g.wear bk) := by
            show _ = _
            unfold bumpF
            rw [hu]
            rfl
          have hw2 := own_set_i HWj.out bk (wrap64 (u + 1))
          rw [HBU.out] at hw2
          have hx2 := ownsRow_setCell_other hfin (a := ⟨g8, bk, none⟩) (by simpa [Value.ownBlock] using fun e => h78 e) (.int .i64 (wrap64 (u + 1)))
          have HWB : Hid ((bumpF g.wear bk).length = NW) := by rw [Hid, bumpF_length]; exact HNW.out
          have hb2 := HBj.out.setCell (p := ⟨g8, bk, none⟩) hg8 (.int .i64 (wrap64 (u + 1)))
          have hcw := HCW.out.below hb2
          have HRES : Hid (RAt (X2 X w.heap.size) (wr.setCell ⟨g8, bk, none⟩ (.int .i64 (wrap64 (u + 1)))) ⟨some ⟨g7, 0, none⟩, c7, some ⟨g8, 0, none⟩, c8, P, r⟩ { g' with img := (lay g.img Z (torn ((g.img.drop Z).take M) g.picks)), wear := bumpF g.wear bk }) :=
            ⟨HROK.out, RdX.new (x2_lt HX.out hgW) (Nat.le_refl _) (by rw [kcells_length]; exact hll) hx2, by simp only [hll]; exact h71, by unfold maxLen; exact h72, RdX.new (x2_lt HX.out hgW) (Nat.le_refl _) (by rw [icells_length]; exact HWB.out) hw2, by simp only [HWB.out]; exact h81, by unfold maxLen; exact h82, hcw.p, hcw.p1, hcw.p2⟩
          obtain ⟨a0, a1, a2, a3, a4, a5, a6⟩ := H6A.out.below hb2 (by omega)
          obtain ⟨b0, b1, b2, b3, b4, b5, b6⟩ := H6B.out.below hb2 (by omega)
          have f0 := a6 0
          have f2 := a6 2
          have e0 := b6 0
          have e1 := b6 1
          have e2 := b6 2
          have e3 := b6 3
          have e4 := b6 4
          have e5 := b6 5
          have HB2 : Hid (Below w.heap.size w (wr.setCell ⟨g8, bk, none⟩ (.int .i64 (wrap64 (u + 1))))) := HBW.out.trans (hb2.mono HBW.out.size)
          obtain ⟨WF, hWF⟩ : ∃ W, wr.setCell ⟨g8, bk, none⟩ (.int .i64 (wrap64 (u + 1))) = W := ⟨_, rfl⟩
          rw [hWF] at HRES HB2 a0 a1 a2 a3 a4 a5 b0 b1 b2 b3 b4 b5 f0 f2 e0 e1 e2 e3 e4 e5
          clear a6 b6 hfin hll hcw hb2 hu hw2 hx2 HBU
          go_upto_region 16 with (fail)
          try rw [hWF]
          clear hWF dn df
          go_wp2
          (try simp only [Exit.inBlock, Exit.then])
          refine bodyPost_ret (v := .tuple #[.agg #[.slice (some ⟨g7, 0, none⟩) NI c7, .int .i64 g.pg, .slice (some ⟨g8, 0, none⟩) NW c8, .bool g'.down, .int .i64 g'.fuse, .slice P g.picks.length r], .int .i64 20]) ?_ rfl ⟨⟨some ⟨g7, 0, none⟩, c7, some ⟨g8, 0, none⟩, c8, P, r⟩, by simp only [Rc.v, HSM.out.1, HWB.out, HSM.out.2.2.2, HLL.out], RAt.weak (X := X2 X w.heap.size) ?_ (fun _ => .inl), ?_⟩
          · rw [results_cell_tmp rfl]
            go_simp
          · (repeat (refine RAt.setCell ?_ _ _ (by first | exact x2_zero _ _ | exact x2_one _ _)))
            exact HRES.out
          · (repeat (refine Below.setCell ?_ (by simp only; omega) _))
            exact HB2.out
end Go.Proofs.Ytjdknddnanopaaa
