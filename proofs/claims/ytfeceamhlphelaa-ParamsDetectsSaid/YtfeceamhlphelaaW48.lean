/-
  Params: read, legal.
-/
import Derived.Test.YtfeceamhlphelaaW47
namespace Go.Proofs.Ytfeceamhlphelaa
open Go.RowKit
set_option linter.unusedVariables false
set_option pp.deepTerms true

/-- The pages that have been read. -/
structure PgI (w wr : World) (v : Value) (vs : List Value) (pg : Nat → List Int) (k : Nat) : Prop where
  own : wr.ownsRow w.heap.size 23 1 v k vs
  pgf : ∀ i, i < k → ∃ g c, vs[i]? = some (.slice (some ⟨g, 0, none⟩) 64 c) ∧ wr.ownsRow w.heap.size 5 1 (.slice (some ⟨g, 0, none⟩) 64 c) 64 (kcells .u8 (pg i))
  len : ∀ i, i < k → (pg i).length = 64
  below : Below w.heap.size w wr
theorem PgI.later {w wr w' : World} {v : Value} {vs : List Value} {pg : Nat → List Int} {k : Nat} (h : PgI w wr v vs pg k) (hb : Below wr.heap.size wr w') : PgI w w' v vs pg k :=
  ⟨own_below h.own hb, fun i hi => by
    obtain ⟨g, c, h1, h2⟩ := h.pgf i hi
    exact ⟨g, c, h1, own_below h2 hb⟩, h.len, h.below.trans (hb.mono h.below.size)⟩
theorem PgI.push {w W W' : World} {v v' : Value} {vs : List Value} {pg : Nat → List Int} {k g c : Nat} {o : Obj} (h : PgI w W v vs pg k)
    (hp : W.ownsRow w.heap.size 5 1 (.slice (some ⟨g, 0, none⟩) 64 c) 64 (kcells .u8 (pg k))) (hlen : (pg k).length = 64)
    (ho : W'.ownsRow w.heap.size 23 1 v' (k + 1) (vs ++ [.slice (some ⟨g, 0, none⟩) 64 c])) (hg : (W.alloc o).grownBy W' v.ownBlock) : PgI w W' v' (vs ++ [.slice (some ⟨g, 0, none⟩) 64 c]) pg (k + 1) := by
  have hb : Below W.heap.size W (W.alloc o) := (Below.refl _ _).alloc (Nat.le_refl _) o
  have h1 := h.later hb
  have hp1 := own_below hp hb
  have hl : vs.length = k := by have := h.own.1; simpa using this
  refine ⟨ho, fun i hi => ?_, fun i hi => ?_, h1.below.grown hg h1.below.size (fun k hk => (h1.own.lt k hk).1)⟩
  · by_cases e : i = k
    · subst e
      exact ⟨g, c, by rw [List.getElem?_append_right (by omega), hl]; simp, kept_of hp1 hg (fun g' hg' e' => own_ne_own h1.own hp1 (by decide) g' e' hg')⟩
    · obtain ⟨g', c', a1, a2⟩ := h1.pgf i (by omega)
      exact ⟨g', c', by rw [List.getElem?_append_left (by omega)]; exact a1, kept_of a2 hg (fun g2 hg' e' => own_ne_own h1.own a2 (by decide) g2 e' hg')⟩
  · by_cases e : i = k
    · subst e; exact hlen
    · exact h.len i (by omega)
theorem PgI.rd {w wr : World} {A : Option Addr} {n c : Nat} {vs : List Value} {pg : Nat → List Int} (h : PgI w wr (.slice A n c) vs pg n) (X : Nat → Prop) (hX : ∀ b, X b → b < w.heap.size) : RdP X wr A ((List.range n).map pg) := by
  have hl : vs.length = n := by have := h.own.1; simpa using this
  refine ⟨vs, rdx_own hl h.own hX, by simp [hl], fun i p hp => ?_⟩
  have hi : i < n := by have := (List.getElem?_eq_some_iff.1 hp).1; simpa using this
  rw [List.getElem?_map, List.getElem?_range hi] at hp
  injection hp with hp
  subst hp
  obtain ⟨g, c, a1, a2⟩ := h.pgf i hi
  obtain ⟨_, _, hv, h1, h2, _⟩ := own_read a2
  injection hv with hv1 hv2 hv3
  subst hv3
  exact ⟨_, 64, _, a1, h.len i hi, h1, h2, rdx_own (by rw [kcells_length, h.len i hi]) a2 hX⟩

section
variable {w0 w : World} {L : Lc} {f : Fl}

set_option maxRecDepth 100000 in
set_option maxHeartbeats 8000000 in
theorem sread_any (h : FlAt w0 w L f) (hd : f.down = false) {D fi : Nat} {A : Option Addr} {n c : Nat} (c0 : w.cell? ⟨D, 0, none⟩ = some (.pointer (some ⟨L.d, 0, none⟩))) (c1 : w.cell? ⟨D, 1, none⟩ = some (.int .i64 fi)) (c3 : w.cell? ⟨D, 3, none⟩ = some (.slice A n c)) (n1 : 1 ≤ n) (n2 : n ≤ 48) (hfi : fi ≤ 64)
    (b j : Nat) (hb2 : b < 1000) (hj2 : j < 1000) (a : Nat) (ha : (fi + b) * f.pg + j * pgs n = a) (hin : a + pgs n ≤ f.wear.length * f.pg) (X : Nat → Prop) (hX : ∀ b, X b → b < w.heap.size) :
    Calls Try.prog 98 #[.pointer (some ⟨D, 0, none⟩), .int .i64 b, .int .i64 j] w fun e w' => ∃ A' c', e = .returned (.tuple #[.slice A' (pgs n) c', .nilIface]) ∧ pgs n ≤ c' ∧ c' ≤ maxLen ∧ RdP X w' A' (pagesF f a (pgs n)) ∧ Below w.heap.size w w' := by
  have g1 := ne_nil
  have hDlt := World.block_lt_of_cell? w _ c0
  have HPG : Hid (∀ W', Below w.heap.size w W' → Calls Try.prog 102 #[.pointer (some ⟨D, 0, none⟩), .int .i64 b, .int .i64 j] W' fun e w' => e = .returned (.int .i64 (a : Nat)) ∧ ∃ q, w' = W'.drewN q) := fun W' hbl => by
    rw [← ha]
    exact spage_h (h.later hbl) ((hbl.cell (p := ⟨D, 0, none⟩) hDlt).trans c0) ((hbl.cell (p := ⟨D, 1, none⟩) hDlt).trans c1) ((hbl.cell (p := ⟨D, 3, none⟩) hDlt).trans c3) n1 n2 hfi (b : Int) (j : Int) b j rfl rfl hb2 hj2
  have H88 := Lib.hid (fun w => pgs_any n (by omega) w)
  have hk8 := pgs_le n2
  have hm := pages_1024 h.ok
  have HX := Lib.hid hX
  have HLEN : Hid (∀ i, i < pgs n → (pageF f (a + i)).length = 64) := fun i hi => pageF_len h.ok (by omega)
  have HRD : Hid (∀ W' (i : Nat), Below w.heap.size w W' → i < pgs n → Calls Try.prog 29 #[.pointer (some ⟨L.d, 0, none⟩), .int .i64 ((a : Int) + (i : Int))] W' fun e w' => ∃ g c, e = .returned (.tuple #[.slice (some ⟨g, 0, none⟩) 64 c, .nilIface]) ∧ w'.ownsRow W'.heap.size 5 1 (.slice (some ⟨g, 0, none⟩) 64 c) 64 (kcells .u8 (pageF f (a + i))) ∧ Below W'.heap.size W' w') := by
    intro W' i hbl hi
    have e1 : (a : Int) + (i : Int) = ((a + i : Nat) : Int) := by push_cast; rfl
    refine (read_any (h.later hbl) ((a : Int) + (i : Int))).mono ?_
    rw [e1, readF_in hd (by omega : a + i < f.wear.length * f.pg)]
    simp only [HLEN.out i hi]
    rintro e w' ⟨v', rfl, ho, hbb⟩
    obtain ⟨A2, c2, rfl, _, _, hg⟩ := own_form ho
    obtain ⟨g, rfl, _⟩ := hg (by omega)
    exact ⟨g, c2, rfl, ho, hbb⟩
  have HC0 : Hid (∀ W', Below w.heap.size w W' → W'.cell? ⟨D, 0, none⟩ = some (.pointer (some ⟨L.d, 0, none⟩))) := fun W' hbl => (hbl.cell (p := ⟨D, 0, none⟩) hDlt).trans c0
  have hap : a ≤ 1024 := by omega
  obtain ⟨K, hK⟩ : ∃ K, pgs n = K := ⟨_, rfl⟩
  rw [hK] at hk8 H88 HLEN HRD ⊢
  obtain ⟨i23, hi, hz0, hz1, hz2⟩ := info_parts info23
  clear h hd hX ha hin hm hK c0 c1
  go_enter Try.func98, Try.ntmps98
  go_wp2_with (fail)
  (with_reducible refine (H88.out w).mono ?_)
  rintro e w1 ⟨rfl, rfl⟩
  go_wp2
  go_loopw [8, 18] (fun v i wr => ∃ k : Nat, k ≤ K ∧ i = .int .i64 k ∧ ∃ vs, PgI w wr v vs (fun i => pageF f (a + i)) k) (fun _ i _ => K - (intOf i).toNat)
  case atStart => exact ⟨0, Nat.zero_le _, rfl, [], ⟨World.ownsRow_nil _ _ _ _, fun i hi => absurd hi (by omega), fun i hi => absurd hi (by omega), Below.refl _ _⟩⟩
  case round =>
    obtain ⟨k, hk, rfl, vs, hI⟩ := hrel
    have HI := Lib.hid hI
    have HBW := Lib.hid hI.below
    clear hI
    by_cases hlt : k < K
    · have c0 := HC0.out wr HBW.out
      have t0 : IntKind.i64.wrap ((a : Int) + (k : Int)) = (a : Int) + (k : Int) := IntWalk.i64_in _ (by omega)
      have HPW : Hid (∀ q, Calls Try.prog 102 #[.pointer (some ⟨D, 0, none⟩), .int .i64 b, .int .i64 j] (wr.drewN q) fun e w' => e = .returned (.int .i64 (a : Nat)) ∧ ∃ q2, w' = (wr.drewN q).drewN q2) :=
        fun q => HPG.out _ (HBW.out.trans ((Below.drewN (Below.refl _ _) q).mono HBW.out.size))
      have HRW : Hid (∀ W', Below wr.heap.size wr W' → Calls Try.prog 29 #[.pointer (some ⟨L.d, 0, none⟩), .int .i64 ((a : Int) + (k : Int))] W' fun e w' => ∃ g c, e = .returned (.tuple #[.slice (some ⟨g, 0, none⟩) 64 c, .nilIface]) ∧ w'.ownsRow W'.heap.size 5 1 (.slice (some ⟨g, 0, none⟩) 64 c) 64 (kcells .u8 (pageF f (a + k))) ∧ Below W'.heap.size W' w') :=
        fun W' hbl => HRD.out W' k (HBW.out.trans (hbl.mono HBW.out.size)) hlt
      go_wp2_with (fail)
      go_region_held3 (fun w' => w'.cell? ⟨D, 0, none⟩ = some (.pointer (some ⟨L.d, 0, none⟩))) (first | go_keep | exact HC0.out _ (HBW.out.trans (hB9.mono HBW.out.size))) (first
        | (go_at_call 102; refine (HPG.out _ (HBW.out.trans (Below.mono (by repeat (first | exact Below.refl _ _ | refine Below.drew ?_ | refine Below.drewN ?_ _)) HBW.out.size))).mono ?_; rintro e wp ⟨rfl, q1, rfl⟩)
        | (go_at_call 29; refine (HRW.out _ (by repeat (first | exact Below.refl _ _ | refine Below.drew ?_ | refine Below.drewN ?_ _))).mono ?_; rintro e we ⟨g, cc, rfl, hoe, hbe⟩; have hB9 := (Below.drewN (Below.refl wr.heap.size wr) _).trans hbe))
      have HI9 := Lib.hid (HI.out.later hB9)
      have HOE : Hid (we.ownsRow w.heap.size 5 1 (.slice (some ⟨g, 0, none⟩) 64 cc) 64 (kcells .u8 (pageF f (a + k)))) := own_low hoe (Nat.le_trans HBW.out.size (by repeat (first | exact Nat.le_refl _ | rfl)))
      have HLK := Lib.hid (HLEN.out k hlt)
      clear hoe hbe hB9 c0 t0
      go_wp2_with (at_builtin; refine wpList_append_own _ rfl _ _ 70 rfl w.heap.size 23 i23 (.slice none 0 0) 1 24 Try.underlying70 hi hz0 hz1 hz2 rfl (by omega) _ _ _ rfl (own_below HI9.out.own ((Below.refl _ _).alloc (Nat.le_refl _) _)) ⟨we.heap.size, 0, none⟩ 1 1 [.slice (some ⟨g, 0, none⟩) 64 cc] rfl rfl (cell_one_new _ _ _) (by simp [Value.oneCell']) (by unfold maxLen; omega) (by omega) (by have := HI9.out.below.size; simp; omega) ?_)
      intro v' w8 hown8 hgrow8 _
      have HI8 := Lib.hid (HI9.out.push HOE.out HLK.out hown8 hgrow8)
      clear hown8 hgrow8
      go_wp2
      go_roundw
      case rel => exact ⟨k + 1, by omega, by go_num, _, HI8.out⟩
      case measure => simp [intOf]; omega
    · have hkn : k = K := by omega
      subst hkn
      obtain ⟨A', c', rfl, h1, h2, _⟩ := own_read HI.out.own
      have HR := Lib.hid (HI.out.rd X HX.out)
      have HH := Lib.hid (And.intro h1 h2)
      clear h1 h2
      go_wp2
      go_ret2
      exact ⟨A', c', rfl, HH.out.1, HH.out.2, HR.out, HBW.out⟩
end
end Go.Proofs.Ytfeceamhlphelaa
