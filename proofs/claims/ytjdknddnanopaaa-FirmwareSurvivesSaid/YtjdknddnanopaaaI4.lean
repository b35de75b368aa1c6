/-
  Layer 52: what plant leaves, as the start of rounds; two cells. No program in sight.
-/
import Derived.Test.YtjdknddnanopaaaI3
import Derived.Test.YtjdknddnanopaaaG6
namespace Go.Proofs.Ytjdknddnanopaaa
open Go.RowKit
set_option linter.unusedVariables false
set_option linter.unusedSimpArgs false

/-- What plant leaves. -/
structure StaR (G : Fl) (k P : Nat) (B : Bk) (img : List Int) : Prop where
  up : G.up
  op : Opn G k P 2 B
  sl : B.slot = 2
  s0 : B.st.saved[0]?.getD 0 = 0
  s1 : B.st.saved[1]?.getD 0 = 2
  hd : Hd G k B.st.saved 0 img
  bt : bootB B G = ({ B with slot := 0 }, G, 0, 0)
  o1 : Opn G k P 2 { B with slot := 0 }
theorem planted_start {G : Fl} {k P : Nat} {B : Bk} {v : Int} {img : List Int} (h : Planted G 0 k B v img) (hsh : Shape (newF (2 * k + 2) P) G) (hk : 1 ≤ k) (hk8 : k ≤ 8) (hP : 2 ≤ P) (h1 : 1 ≤ img.length) (h2 : img.length ≤ k * P * 64) : StaR G k P B img := by
  have hsv : B.st.saved = [0, 2, 0, v, (img.length : Int), sumZ img, 0, 0, 0] := h.fr.sv.1
  have hd := h.up.dn
  obtain ⟨bs, hbs⟩ : ∃ s, B.st = s := ⟨_, rfl⟩
  have hn := h.nb
  rw [hbs] at hn
  have hbr : B.broken = false := by rw [hn]; rfl
  have hsl : B.slot = 2 := by rw [hn]; rfl
  have hul : B.upload = false := by rw [hn]; rfl
  have her : B.erase = [] := by rw [hn]; rfl
  have hda : B.data = none := by rw [hn]; rfl
  have hrc : B.record = false := by rw [hn]; rfl
  have hfi : B.first = 0 := by rw [hn]; rfl
  have hbl : B.blocks = 2 * k + 2 := by rw [hn]; rfl
  have hpg : G.pg = P := by rw [hsh.p]; rfl
  have hwl : G.wear.length = 2 * k + 2 := by rw [hsh.w]; unfold newF; simp
  have hal : ∀ s, s ≤ 2 → Opn G k P 2 { B with slot := s } := fun s hs =>
    ⟨⟨h.ok.slot_any s hs, h.up.ok, fun _ _ => ⟨h.fr.sv.none_live.1, (by show B.record = B.st.busy; rw [hrc, h.fr.bu])⟩, fun _ => hd, ⟨none, h.fr.sv.sto⟩, fun e he => (by have he' : e ∈ B.erase := he; rw [her] at he'; cases he'), fun d hd' => (by have hd2 : B.data = some d := hd'; rw [hda] at hd2; cases hd2), h.sq, fun hu => (by have hu' : B.upload = true := hu; rw [hul] at hu'; cases hu')⟩,
      ⟨hbr, her, hda, hrc⟩, hfi, hbl, hpg, hwl, hk, hk8, hP, hul, h.fr.bu, h.fr.st⟩
  have hB2 : ({ B with slot := 2 } : Bk) = B := by
    obtain ⟨_, _, _, _, _, _, _, _, _, _, _, _, _, _⟩ := B
    simp only at hsl
    subst hsl
    rfl
  have s0 : B.st.saved[0]?.getD 0 = 0 := by rw [hsv]; rfl
  have s1 : B.st.saved[1]?.getD 0 = 2 := by rw [hsv]; rfl
  refine ⟨h.up, by have := hal 2 (Nat.le_refl _); rw [hB2] at this; exact this, hsl, s0, s1, ?_, boot_plain hbr hd hsl (a := 0) s0 s1, hal 0 (by omega)⟩
  refine ⟨h1, by rw [hpg]; exact h2, by rw [hsv]; rfl, by rw [hsv]; rfl, ?_⟩
  rw [← imgB_slot hfi (by unfold Bk.k; rw [hbl]; omega)]
  exact h.im
theorem StaR.rnd {G : Fl} {k P : Nat} {B : Bk} {img : List Int} (h : StaR G k P B img) : Rnd G k P (Gd G k img none) 2 :=
  h.op.idle (.quiet 0 img (by omega) h.s0 h.s1 h.hd (.inl rfl))

/-- An installation behind plant and Boot. -/
theorem tr_start {G : Fl} {k P : Nat} {B : Bk} {img : List Int} (h : StaR G k P B img) {v : Int} (hv : 1 ≤ v ∧ v ≤ 1073741824) {X : List Int} (hby : Bytes X) (hx1 : 1 ≤ X.length) (hx2 : X.length ≤ k * P * 64) {q : Bk × Fl × Bool} (hq : installB v X { B with slot := 0 } G = q) :
    q.2.2 = true ∧ ∃ u, TrS q.2.1 k P img X 42 u 0 false := by
  have hR := h.o1.install (n := 2) (by omega) (run := 0) rfl (by omega) h.s0 h.s1 h.hd hv hby hx1 hx2
  rw [hq] at hR
  obtain ⟨u1, u2⟩ := hR.up h.up
  obtain ⟨y1, y2, y3, y4⟩ := hR.yes u1
  obtain ⟨g0, g1, g2, -⟩ := fin_get h.op.len (D := 1) (by omega) v X.length (sumZ X)
  refine ⟨u1, _, y1, u2, y2, y3, .inr ⟨rfl, g0.trans h.s0, .inl ⟨by omega, g1, by rw [g2]; rfl⟩⟩⟩

/-- Two cells. -/
def two (w : World) (B : Nat) (a b : Value) : Prop := w.cell? ⟨B, 0, none⟩ = some a ∧ w.cell? ⟨B, 1, none⟩ = some b
theorem two_new (w : World) (a b : Value) (t : TypeId) (B : Nat) (hB : B = w.heap.size) : two (w.alloc (.cells #[a, b] t)) B a b := by
  subst hB
  exact ⟨cell_new_at _ _ _ _ _ _ rfl rfl, cell_new_at _ _ _ _ _ _ rfl rfl⟩
theorem two.lt {w : World} {B : Nat} {a b : Value} (h : two w B a b) : B < w.heap.size := World.block_lt_of_cell? w _ h.1
theorem two.below {w w' : World} {B N : Nat} {a b : Value} (h : two w B a b) (hb : Below N w w') (hB : B < N) : two w' B a b :=
  ⟨(hb.cell (p := ⟨B, 0, none⟩) hB).trans h.1, (hb.cell (p := ⟨B, 1, none⟩) hB).trans h.2⟩
end Go.Proofs.Ytjdknddnanopaaa
