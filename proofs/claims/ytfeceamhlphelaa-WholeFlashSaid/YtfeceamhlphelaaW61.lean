/-
  WholeFlash: its changes, opened; what a commit leaves; the fixed run.
-/
import Derived.Test.YtfeceamhlphelaaW56
import Derived.Test.YtfeceamhlphelaaPlainL
import Derived.Test.YtfeceamhlphelaaFrameC
import Derived.Deep.DeepCutAuto
import Derived.Deep.CutBlock
namespace Go.Proofs.Ytfeceamhlphelaa
open Go.RowKit
set_option linter.unusedVariables false
set_option linter.unusedSimpArgs false

/-- A change. -/
structure Chn where
  v : Int
  fl : Bool
  af : Int
  P : Option Addr
  q : Nat
  r : Nat
  p : List Int
def Chn.cells (x : Chn) : List Value := [.int .u8 x.v, .bool x.fl, .int .u8 x.af, .slice x.P x.q x.r]
theorem Chn.cells_length (x : Chn) : x.cells.length = 4 := rfl
def ccells (l : List Chn) : List Value := l.flatMap Chn.cells
structure Chn.ok (x : Chn) (w : World) (B0 : Nat) : Prop where
  rp : Rd w B0 x.P (kcells .u8 x.p)
  lp : x.p.length = x.q
  mp : x.q ≤ x.r
  cp : x.r ≤ maxLen
  bp : Bytes x.p
  sq : x.q ≤ 140737488351232
  v0 : 0 ≤ x.v
  v1 : x.v < 256
  a0 : 0 ≤ x.af
  a1 : x.af < 256
theorem Chn.ok.below {x : Chn} {w w' : World} {B0 B1 : Nat} (h : x.ok w B0) (hb : Below B1 w w') (hB : B0 ≤ B1) : x.ok w' B0 :=
  ⟨h.rp.below hb hB, h.lp, h.mp, h.cp, h.bp, h.sq, h.v0, h.v1, h.a0, h.a1⟩
theorem Chn.ok.more {x : Chn} {w : World} {B0 B1 : Nat} (h : x.ok w B0) (hB : B0 ≤ B1) : x.ok w B1 :=
  ⟨h.rp.more hB, h.lp, h.mp, h.cp, h.bp, h.sq, h.v0, h.v1, h.a0, h.a1⟩
theorem Rd.chn {w : World} {B : Nat} {A : Option Addr} {l : List Chn} (h : Rd w B A (ccells l)) {k : Nat} {x : Chn} (hx : l[k]? = some x) :
    ∃ b off, A = some ⟨b, off, none⟩ ∧ b < B ∧ w.cell? ⟨b, off + k * 4, none⟩ = some (.int .u8 x.v) ∧ w.cell? ⟨b, off + k * 4 + 1, none⟩ = some (.bool x.fl) ∧ w.cell? ⟨b, off + k * 4 + 2, none⟩ = some (.int .u8 x.af) ∧
      w.cell? ⟨b, off + k * 4 + 3, none⟩ = some (.slice x.P x.q x.r) := by
  have key : ∀ j u, x.cells[j]? = some u → (ccells l)[k * 4 + j]? = some u := fun j u hu => flat_get Chn.cells 4 Chn.cells_length l k j x u hx hu
  have hne : ccells l ≠ [] := by
    intro e
    have := key 0 _ rfl
    rw [e] at this
    simp at this
  obtain ⟨b, off, e, hlt, hc⟩ := h hne
  exact ⟨b, off, e, hlt, hc _ _ (key 0 _ rfl), hc _ _ (key 1 _ rfl), hc _ _ (key 2 _ rfl), hc _ _ (key 3 _ rfl)⟩

theorem four.onlyX' {X : Nat → Prop} {w w' : World} {B : Nat} {a b c d : Value} (h : four w B a b c d) (k : OnlyX X w w') (hX : ¬ X B) : four w' B a b c d := by
  have e := k.block B h.lt hX
  obtain ⟨h0, h1, h2, h3, hf⟩ := h
  refine ⟨(cell_of_block e).trans h0, (cell_of_block e).trans h1, (cell_of_block e).trans h2, (cell_of_block e).trans h3, fun j => ?_⟩
  rw [← hf j]
  unfold World.frozen?
  simp only [e]

/-! What a commit leaves, with its code and its sequence number. -/
theorem stepS_seq (s : St) (f : Fl) : (stepS s f).1.seq = s.seq + (if (stepS s f).2.2.1 = true then 1 else 0) := by
  have ht : (tickS s).seq = s.seq := by unfold tickS; split <;> rfl
  unfold stepS
  split
  · simp
  split
  · simp
  split
  · simp [ht]
  split
  · simp [ht]
  · simp [endS, ht]
theorem runS_seq (n : Nat) (s : St) (f : Fl) : s.seq ≤ (runS n s f).1.seq ∧ (runS n s f).1.seq ≤ s.seq + 1 := by
  induction n generalizing s f with
  | zero => exact ⟨Int.le_refl _, by show s.seq ≤ s.seq + 1; omega⟩
  | succ n ih =>
    have h := stepS_seq s f
    rw [runS_succ]
    split
    · simp only
      rw [h]
      split <;> omega
    · rename_i hn
      have h2 := ih (stepS s f).1 (stepS s f).2.1
      rw [h, if_neg (fun e => hn (.inl e))] at h2
      omega
theorem placeS_seq (s : St) (f : Fl) : (placeS s f).seq = s.seq := (placeS_same s f).2.2.2.2.2.1
theorem commitS_seq (s : St) (f : Fl) : (commitS s f).1.seq ≤ s.seq + 1 := by
  have hb : (beginS s f).seq = s.seq := by
    unfold beginS
    split
    · exact placeS_seq _ _
    · rfl
  unfold commitS
  split
  · simp only
    omega
  · have := (runS_seq 10 (beginS s f) f).2
    omega
/-- A commit by a store that lives. -/
theorem Live.commit3 {f : Fl} {s : St} (h : Live f s) (hb : s.busy = false) (hq : s.seq ≤ 1000000) :
    ((commitS s f).2.2 = 0 ∧ Live (commitS s f).2.1 (commitS s f).1 ∧ (commitS s f).1.busy = false ∧ (commitS s f).1.saved = s.staged ∧ (commitS s f).1.staged = s.staged) ∨
    ((commitS s f).2.2 = 20 ∧ Dead (commitS s f).2.1 (commitS s f).1 ∧ (commitS s f).1.saved = s.saved ∧ (commitS s f).1.values = s.staged) ∨
    ((commitS s f).2.2 = 12 ∧ commitS s f = (s, f, 12) ∧ s.staged = s.saved) := by
  by_cases he : beginE s f = 0
  · have hc : commitS s f = runS 10 (beginS s f) f := by unfold commitS; rw [if_neg (by rw [he]; decide)]
    obtain ⟨e1, e2, e3, e4, _⟩ := begin_fields he
    rw [hc]
    cases h.begin.run e1 (begin_left h.ok he) with
    | last b1 b2 b3 b4 b5 => exact .inl ⟨b1, b2, b3, b4.trans e2, b5.trans e4⟩
    | dead b1 b2 b3 b4 => exact .inr (.inl ⟨b1, b2, b3.trans e3, b4.trans e2⟩)
  · right
    right
    rw [commit_codes he, h.begin_no he]
    have h12 : beginE s f = 12 ∧ s.staged = s.saved := by
      revert he
      unfold beginE
      rw [h.br, h.up, hb, if_neg (by decide), if_neg (by decide)]
      split
      · rename_i e
        exact fun _ => ⟨rfl, e⟩
      · intro he
        have hl := h.ok.tl
        have h1 := h.ok.n1
        have h2 := h.ok.n2
        have h3 := h.ok.q1
        unfold encE at he
        rw [if_neg (by omega)] at he
        exact absurd rfl he
    exact ⟨h12.1, by rw [h12.1], h12.2⟩
theorem openF_seq {f : Fl} {s : St} {g : Fl} {cur : Option (Int × Nat × Nat × List Int)} (h : Opened g s (openF g s.first s.blocks s.spec) cur) {K : Int} (h0 : 0 ≤ K) (hc : ∀ q b j v, cur = some (q, b, j, v) → q ≤ K) : (openF g s.first s.blocks s.spec).seq ≤ K := by
  cases cur with
  | none =>
    have hr := h.rc
    unfold curS at hr
    split at hr
    · rename_i e
      have := (h.live.q0 e).1
      omega
    · cases hr
  | some c =>
    obtain ⟨q, b, j, v⟩ := c
    have hr := h.rc
    unfold curS at hr
    split at hr
    · cases hr
    · injection hr with hr
      simp only [Prod.mk.injEq] at hr
      have := hc q b j v rfl
      omega
/-- Opened again after a power failure. -/
theorem Dead.again {f : Fl} {s : St} (h : Dead f s) (hbad : s.spec.any badP = false) :
    Live (startF f) (openF (startF f) s.first s.blocks s.spec) ∧ (openF (startF f) s.first s.blocks s.spec).busy = false ∧ (openF (startF f) s.first s.blocks s.spec).seq ≤ s.seq + 1 ∧
    (openF (startF f) s.first s.blocks s.spec).staged = (openF (startF f) s.first s.blocks s.spec).saved := by
  obtain ⟨i1, i2, i3, i4⟩ := startF_same f
  have hok := startF_ok h.fok
  have hq0 := h.ok.q1
  have key : ∀ cur, Newest f s cur → (∀ q b j v, cur = some (q, b, j, v) → Lg s.spec v ∧ q ≤ s.seq + 1) → _ := fun cur hn hl => by
    obtain ⟨e1, e2⟩ := open_live hn h.ok i1 i2 (by rw [i3]) hok i4 h.trn hbad (fun q b j v e => (hl q b j v e).1)
    exact And.intro e2.live (And.intro e2.busy (And.intro (openF_seq (f := f) e2 (K := s.seq + 1) (by omega) (fun q b j v e => (hl q b j v e).2)) e2.staged))
  rcases h.new with hn | ⟨hn, _⟩
  · refine key _ hn (fun q b j u e => ?_)
    unfold curS at e
    split at e
    · cases e
    · injection e with e
      simp only [Prod.mk.injEq] at e
      rw [← e.2.2.2]
      exact ⟨h.lgs, by omega⟩
  · refine key _ hn (fun q b j u e => ?_)
    injection e with e
    simp only [Prod.mk.injEq] at e
    rw [← e.2.2.2]
    exact ⟨h.lgv, by omega⟩

def wfP : List Par := [⟨0, 255, 7⟩, ⟨0, 255, 7⟩]
theorem wfP_ok : ∀ p ∈ wfP, p.ok := by
  intro p hp
  simp only [wfP, List.mem_cons, List.not_mem_nil, or_false] at hp
  rcases hp with rfl | rfl
  · exact ⟨by unfold I64; simp, by unfold I64; simp, by unfold I64; simp⟩
  · exact ⟨by unfold I64; simp, by unfold I64; simp, by unfold I64; simp⟩
theorem wfP_bad : wfP.any badP = false := by decide
/-- Two values that are legal. -/
theorem wfP_legal {v : List Int} (hl : v.length = 2) (h : Lg wfP v) : ∃ a b, v = [a, b] ∧ 0 ≤ a ∧ a ≤ 255 ∧ 0 ≤ b ∧ b ≤ 255 := by
  match v, hl with
  | [a, b], _ =>
    have h' : [legalP ⟨0, 255, 7⟩ a, legalP ⟨0, 255, 7⟩ b] = [a, b] := h
    simp only [List.cons.injEq, and_true] at h'
    have key : ∀ x : Int, legalP ⟨0, 255, 7⟩ x = x → 0 ≤ x ∧ x ≤ 255 := by
      intro x hx
      unfold legalP inPar at hx
      simp only at hx
      split at hx
      · rename_i e
        simpa using e
      · omega
    exact ⟨a, b, rfl, (key a h'.1).1, (key a h'.1).2, (key b h'.2).1, (key b h'.2).2⟩
theorem wf_set {s : St} {x y a b : Int} (hsp : s.spec = wfP) (hbr : s.broken = false) (hst : s.staged = [a, b]) (hx : 0 ≤ x ∧ x ≤ 255) (hy : 0 ≤ y ∧ y ≤ 255) :
    setE s 0 x = 0 ∧ setE (setF s 0 x) 1 y = 0 ∧ (setF (setF s 0 x) 1 y).staged = [x, y] := by
  have h0 : setE s 0 x = 0 := by
    unfold setE
    rw [hbr, hsp, if_neg (by decide), if_neg (by decide), if_neg]
    have : inPar (wfP[(0 : Int).toNat]?.getD default) x = true := by
      show decide (0 ≤ x ∧ x ≤ 255) = true
      exact decide_eq_true hx
    rw [this]
    decide
  have hF : setF s 0 x = { s with staged := [x, b] } := by
    unfold setF
    rw [if_pos h0, hst]
    rfl
  have h1 : setE (setF s 0 x) 1 y = 0 := by
    rw [hF]
    unfold setE
    simp only
    rw [hbr, hsp, if_neg (by decide), if_neg (by decide), if_neg]
    have : inPar (wfP[(1 : Int).toNat]?.getD default) y = true := by
      show decide (0 ≤ y ∧ y ≤ 255) = true
      exact decide_eq_true hy
    rw [this]
    decide
  refine ⟨h0, h1, ?_⟩
  have : setF (setF s 0 x) 1 y = { setF s 0 x with staged := (setF s 0 x).staged.set 1 y } := by
    unfold setF at h1 ⊢
    rw [if_pos h0] at h1 ⊢
    rw [if_pos h1]
    rfl
  rw [this, hF]
  rfl

theorem missed34 (w : World) : Calls Try.prog 105 #[.int .i64 3, .int .i64 4] w fun e w' => e = .returned (.int .i64 0) ∧ w = w' := by
  go_enter Try.func105, Try.ntmps105
  go_wp2
  go_ret
  exact ⟨rfl, rfl⟩
theorem abs_any (x : Int) (w : World) (h1 : -1000000 ≤ x) (h2 : x ≤ 1000000) : Calls Try.prog 74 #[.int .i64 x] w fun e w' => e = .returned (.int .i64 (max x (-x))) ∧ w = w' := by
  have e1 : (x == -9223372036854775808) = false := by simp; omega
  go_enter Try.func74, Try.ntmps74
  go_wp2
  go_ret
  exact ⟨rfl, rfl⟩

set_option maxRecDepth 100000 in
set_option maxHeartbeats 4000000 in
theorem kept_any (w : World) : Calls Try.prog 73 #[] w fun e w' => e = .returned (.bool true) ∧ Below w.heap.size w w' := by
  have g1 := ne_nil
  have g2 := ne_err
  have H1 := Lib.hid aq1
  have H2 := Lib.hid aq2
  have H3 := Lib.hid aq3
  have H4 := Lib.hid aq4
  have H6 := Lib.hid aq6
  have hm1 : 1 ≤ maxLen := by unfold maxLen; omega
  go_enter Try.func73, Try.ntmps73
  go_wp2_with (fail)
  (with_reducible refine (new_okI 2 4 2 4 rfl rfl w (by omega) (by omega) (by omega) (by omega)).mono ?_)
  rintro e w1 ⟨L, rfl, hF⟩
  have HF1 : Hid (FlAt w w1 L awF0) := hF
  clear hF
  go_wp2_with (fail)
  have hRP : Rd (w1.alloc (.cells #[.int .i64 0, .int .i64 9, .int .i64 3] 99)) (w1.heap.size + 1) (some ⟨w1.heap.size, 0, none⟩) (pcells awP) := Rd.new w1 _ _ _ rfl
  have HF2 := Lib.hid (HF1.out.alloc (.cells #[.int .i64 0, .int .i64 9, .int .i64 3] 99))
  obtain ⟨W, hW⟩ : ∃ W, w1.alloc (.cells #[.int .i64 0, .int .i64 9, .int .i64 3] 99) = W := ⟨_, rfl⟩
  have hWs : W.heap.size = w1.heap.size + 1 := by rw [← hW]; exact Array.size_push _
  rw [hW] at hRP HF2 ⊢
  rw [← hWs] at hRP
  have HRP := Lib.hid hRP
  have HWS := Lib.hid hWs
  clear hRP hW hWs
  (with_reducible refine (open_yesI HF2.out 0 2 0 2 rfl rfl _ 1 1 awP HRP.out rfl (Nat.le_refl _) hm1 awP_ok H1.out).mono ?_)
  rintro e w3 ⟨S, rfl, hS, hb, hD, hG⟩
  have HS3 : Hid (StAt w w3 L S awF0 awS0) := hS
  have HOK3 : Hid (StOk awF0 awS0) := openF_ok awP_ok H1.out
  clear hS hb hD hG
  have q1 := eqq_some S.D
  go_wp2_with (fail)
  (with_reducible refine (set_any HS3.out HOK3.out 0 5).mono ?_)
  rintro e w4 ⟨he, hs4, ho4⟩
  rw [H2.out, errV_zero] at he
  subst he
  have HS4 : Hid (StAt w w4 L S awF0 awS1) := hs4
  have HOK4 : Hid (StOk awF0 awS1) := setF_ok HOK3.out (by unfold I64; omega)
  clear hs4 ho4
  go_wp2_with (fail)
  (with_reducible refine (commit_any HS4.out HOK4.out).mono ?_)
  rintro e w5 ⟨he, ⟨S5, hd5, hg5, hs5⟩, ho5⟩
  have he' : e = .returned .nilIface := by
    rw [he]
    have := H3.out
    unfold awC at this
    rw [this, errV_zero]
  subst he'
  have HF5 : Hid (FlAt w w5 L awC.2.1) := hs5.fl
  clear he hs5 ho5 hd5 hg5
  go_wp2_with (fail)
  have hRP5 : Rd (w5.alloc (.cells #[.int .i64 0, .int .i64 9, .int .i64 3] 99)) (w5.heap.size + 1) (some ⟨w5.heap.size, 0, none⟩) (pcells awP) := Rd.new w5 _ _ _ rfl
  have HF6 := Lib.hid (HF5.out.alloc (.cells #[.int .i64 0, .int .i64 9, .int .i64 3] 99))
  obtain ⟨W5, hW5⟩ : ∃ W, w5.alloc (.cells #[.int .i64 0, .int .i64 9, .int .i64 3] 99) = W := ⟨_, rfl⟩
  have hWs5 : W5.heap.size = w5.heap.size + 1 := by rw [← hW5]; exact Array.size_push _
  rw [hW5] at hRP5 HF6 ⊢
  rw [← hWs5] at hRP5
  have HRP5 := Lib.hid hRP5
  clear hRP5 hW5 hWs5
  (with_reducible refine (open_yesI HF6.out 0 2 0 2 rfl rfl _ 1 1 awP HRP5.out rfl (Nat.le_refl _) hm1 awP_ok H4.out).mono ?_)
  rintro e w6 ⟨S6, rfl, hS, hb, hD, hG⟩
  have HS6 : Hid (StAt w w6 L S6 awC.2.1 awT) := hS
  have HOK6 : Hid (StOk awC.2.1 awT) := openF_ok awP_ok H4.out
  clear hS hb hD hG
  go_wp2_with (fail)
  (with_reducible refine (saved_any HS6.out HOK6.out).mono ?_)
  rintro e w8 ⟨v8, rfl, ho, hb⟩
  obtain ⟨t1, t2, t3⟩ := H6.out
  rw [t1, t3] at ho
  obtain ⟨A8, c8, rfl, hc81, hc82, hr8⟩ := own_read ho
  have HS8 := Lib.hid (HS6.out.later hb)
  have HR8 := Lib.hid hr8
  clear ho hb hr8 t1 t3 t2
  go_wp2_with (fail)
  obtain ⟨V, hV⟩ : ∃ V, w8.alloc (.cells #[.int .i64 5] 3) = V := ⟨_, rfl⟩
  have HBV : Hid (Below w8.heap.size w8 V) := by rw [← hV]; exact (Below.refl _ _).alloc (Nat.le_refl _) _
  have HRV : Hid (Rd V V.heap.size (some ⟨w8.heap.size, 0, none⟩) (icells [5])) := by
    rw [← hV, World.size_alloc]
    exact Rd.new w8 _ _ _ rfl
  rw [hV]
  have HSV := Lib.hid (HS8.out.later HBV.out)
  (with_reducible refine (ints_any A8 (some ⟨w8.heap.size, 0, none⟩) 1 1 c8 1 [5] [5] V ((HR8.out.below HBV.out (Nat.le_refl _)).more HBV.out.size) HRV.out rfl rfl hm1 hm1).mono ?_)
  rintro e w9 ⟨rfl, q9, rfl⟩
  rw [decide_eq_true rfl]
  have HB9 : Hid (Below w.heap.size w (V.drewN q9)) := HSV.out.fl.below.trans ((Below.drewN (Below.refl _ _) q9).mono HSV.out.fl.below.size)
  clear hV
  go_wp2_with (fail)
  (with_reducible refine (missed34 _).mono ?_)
  rintro e w10 ⟨rfl, rfl⟩
  go_wp2
  go_ret
  exact ⟨rfl, HB9.out⟩
end Go.Proofs.Ytfeceamhlphelaa
