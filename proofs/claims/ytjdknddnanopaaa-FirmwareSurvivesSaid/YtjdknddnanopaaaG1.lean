/-
  Firmware: what the store's operations leave alone; the image that Format lays; the bank behind Format. No program in sight.
-/
import Derived.Test.YtjdknddnanopaaaF8
import Derived.Test.YtjdknddnanopaaaPlainJ
namespace Go.Proofs.Ytjdknddnanopaaa
open Go.RowKit
set_option linter.unusedVariables false

theorem eraseF_far {f : Fl} (h : f.ok) {B x : Nat} (hx : ¬ (B * f.pg ≤ x ∧ x < B * f.pg + f.pg)) : pageF (eraseF f (B : Int)).1 x = pageF f x := by
  by_cases hd : f.down = true
  · unfold eraseF; rw [if_pos hd]
  by_cases hB : B < f.wear.length
  · rcases (erase_pages h (by simpa using hd) hB).ok with ⟨_, _, e⟩ | ⟨_, _, e⟩ <;> rw [e, if_neg hx]
  · unfold eraseF; rw [if_neg hd, if_pos (by omega)]
theorem progF_far {f : Fl} (h : f.ok) {P x : Nat} {b : List Int} (hb : b.length = 64) (hx : x ≠ P) : pageF (progF f (P : Int) b).1 x = pageF f x := by
  by_cases ha : atF f (P : Int) = 0
  · obtain ⟨hd, _, hP⟩ := atF_zero ha
    have hP' : P < f.wear.length * f.pg := by omega
    by_cases hbl : pageF f P = blankP
    · rcases (prog_pages h hd hP' hb hbl).ok with ⟨_, _, e⟩ | ⟨_, _, e⟩ <;> rw [e, if_neg hx]
    · have hnb : blankF (pageF f P) = false := by
        cases hbb : blankF (pageF f P) with
        | false => rfl
        | true => exact absurd ((blankF_blank (pageF_len h hP')).1 hbb) hbl
      unfold progF
      rw [if_neg (by rw [ha]; simp), if_neg (by omega), Int.toNat_natCast, if_pos hnb]
  · unfold progF
    rw [if_pos ha]
theorem opS_far {f : Fl} {s : St} (hf : f.ok) (ho : StOk f s) (hb : s.busy = true) (hr : s.broken = false) {x : Nat} (hx : x < s.first * f.pg ∨ (s.first + s.blocks) * f.pg ≤ x) : pageF (opS s f).1 x = pageF f x := by
  unfold opS
  split
  · rw [show (s.first : Int) + (s.dest : Int) = ((s.first + s.dest : Nat) : Int) by push_cast; rfl]
    have h1 : (s.first + s.dest) * f.pg + f.pg ≤ (s.first + s.blocks) * f.pg := by
      have := Nat.mul_le_mul_right f.pg (show s.first + s.dest + 1 ≤ s.first + s.blocks by have := ho.tb; omega)
      rw [Nat.add_mul (s.first + s.dest), Nat.one_mul] at this
      exact this
    have h2 : s.first * f.pg ≤ (s.first + s.dest) * f.pg := Nat.mul_le_mul_right _ (by omega)
    exact eraseF_far hf (by omega)
  · have hd := ho.dn hb hr
    obtain ⟨h1, h2⟩ := ho.in_region ho.tb ho.ts hd
    have hl : (s.pages[s.done]?.getD []).length = 64 := by
      obtain ⟨p, hp⟩ := getElem?_of_lt (l := s.pages) (k := s.done) (by rw [ho.pl hb]; exact hd)
      rw [hp]
      exact (ho.pb p (List.mem_of_getElem? hp)).1
    exact progF_far hf hl (by omega)
theorem opS_pg (s : St) (f : Fl) : (opS s f).1.pg = f.pg := (opS_shape s f).p
theorem stepS_far {f : Fl} {s : St} (hf : f.ok) (ho : StOk f s) {x : Nat} (hx : x < s.first * f.pg ∨ (s.first + s.blocks) * f.pg ≤ x) : pageF (stepS s f).2.1 x = pageF f x := by
  unfold stepS
  split
  · rfl
  rename_i h1
  split
  · rfl
  rename_i h2
  have := opS_far hf ho (by simpa using h2) (by simpa using h1) hx
  split
  · exact this
  split <;> exact this
theorem opS_ok2 {f : Fl} {s : St} (hf : f.ok) (ho : StOk f s) : (opS s f).1.ok := by
  unfold opS
  split
  · exact eraseF_ok hf
  · refine progF_ok hf ?_
    cases hp : s.pages[s.done]? with
    | none => exact Bytes.nil
    | some p => exact (ho.pb p (List.mem_of_getElem? hp)).2
theorem stepS_fok {f : Fl} {s : St} (hf : f.ok) (ho : StOk f s) : (stepS s f).2.1.ok := by
  unfold stepS
  split
  · exact hf
  split
  · exact hf
  have := opS_ok2 hf ho
  split
  · exact this
  split <;> exact this
theorem runS_far : ∀ (n : Nat) {f : Fl} {s : St} (hf : f.ok) (ho : StOk f s) {x : Nat} (hx : x < s.first * f.pg ∨ (s.first + s.blocks) * f.pg ≤ x), pageF (runS n s f).2.1 x = pageF f x ∧ (runS n s f).2.1.ok
  | 0, f, s, hf, ho, x, hx => ⟨rfl, hf⟩
  | n + 1, f, s, hf, ho, x, hx => by
    have h1 := stepS_far hf ho hx
    have h2 := stepS_fok hf ho
    rw [runS_succ]
    split
    · exact ⟨h1, h2⟩
    · have hsm := stepS_same s f
      have hsh := stepS_shape s f
      obtain ⟨h3, h4⟩ := runS_far n h2 (stepS_ok ho) (x := x) (by rw [hsm.first, hsm.blocks, hsh.p]; exact hx)
      exact ⟨h3.trans h1, h4⟩
theorem commitS_far {f : Fl} {s : St} (hf : f.ok) (ho : StOk f s) {x : Nat} (hx : x < s.first * f.pg ∨ (s.first + s.blocks) * f.pg ≤ x) : pageF (commitS s f).2.1 x = pageF f x ∧ (commitS s f).2.1.ok := by
  unfold commitS
  split
  · exact ⟨rfl, hf⟩
  · have hsm := beginS_same s f
    exact runS_far 10 hf (beginS_ok ho) (by rw [hsm.first, hsm.blocks]; exact hx)
theorem runS_shape : ∀ (n : Nat) (s : St) (f : Fl), Shape f (runS n s f).2.1
  | 0, s, f => Shape.refl f
  | n + 1, s, f => by
    rw [runS_succ]
    split
    · exact stepS_shape s f
    · exact (stepS_shape s f).trans (runS_shape n _ _)
theorem commitS_shape (s : St) (f : Fl) : Shape f (commitS s f).2.1 := by
  unfold commitS
  split
  · exact Shape.refl f
  · exact runS_shape _ _ _

theorem stepS_picks (s : St) (f : Fl) : (stepS s f).2.1.picks = f.picks := by
  unfold stepS
  split
  · rfl
  split
  · rfl
  split
  · exact opS_picks s f
  split <;> exact opS_picks s f
theorem runS_picks : ∀ (n : Nat) (s : St) (f : Fl), (runS n s f).2.1.picks = f.picks
  | 0, s, f => rfl
  | n + 1, s, f => by
    rw [runS_succ]
    split
    · exact stepS_picks s f
    · exact (runS_picks n _ _).trans (stepS_picks s f)
/-- The bytes of a slot, from its pages. -/
theorem img_of_pages {g : Fl} {a : Nat} {img : List Int} (h : ∀ i, i < nPages img.length → pageF g (a + i) = padB (chunkB img i)) : (g.img.drop (64 * a)).take img.length = img := by
  apply List.ext_getElem?
  intro i
  rw [List.getElem?_take]
  split
  · rename_i hi
    have hk : i / 64 < nPages img.length := by unfold nPages; omega
    have hp : (pageF g (a + i / 64))[i % 64]? = (padB (chunkB img (i / 64)))[i % 64]? := by rw [h (i / 64) hk]
    unfold pageF at hp
    rw [List.getElem?_take, if_pos (Nat.mod_lt _ (by omega)), List.getElem?_drop] at hp
    rw [List.getElem?_drop, show 64 * a + i = 64 * (a + i / 64) + i % 64 by omega, hp]
    unfold padB chunkB
    have hl : i % 64 < (List.take 64 (List.drop (64 * (i / 64)) img)).length := by rw [List.length_take, List.length_drop]; omega
    rw [List.getElem?_append_left hl, List.getElem?_take, if_pos (Nat.mod_lt _ (by omega)), List.getElem?_drop, show 64 * (i / 64) + i % 64 = i by omega]
  · rename_i hi
    rw [List.getElem?_eq_none (by omega)]

/-- A fresh store: nothing is under way. -/
structure Fresh (f : Fl) (s : St) (v : List Int) : Prop where
  sv : Surv f s v none
  up : f.down = false
  bu : s.busy = false
  br : s.broken = false
  st : s.staged = s.saved
theorem openF_fresh {f : Fl} {fi bl : Nat} {sp : List Par} {v : List Int} (hs : ∀ p ∈ sp, p.ok) (he : openE f fi bl sp = 0) (h : Surv f (openF f fi bl sp) v none) : Fresh f (openF f fi bl sp) v := by
  have hd := (openE_zero he).1
  have hs := openF_sch hs he
  exact ⟨h, hd, hs.re.2.2.2.2.2.2.2, hs.re.1, rfl⟩

theorem fmt_seq {f : Fl} (h : f.up) {first k : Nat} (hk : 1 ≤ k) (hk8 : k ≤ 8) (hw : first + (2 * k + 2) ≤ f.wear.length) (hp : 2 ≤ f.pg) {img : List Int} (hi : Bytes img) (h2 : img.length ≤ sizeF f (2 * k + 2)) (v c : Int) : (fmtC f first (2 * k + 2) v c img).1.seq ≤ 1 := by
  obtain ⟨g1, g2, g3, g4, g5, g6, g7, _⟩ := fmtG_blank h hw hk hi h2
  have hsz := sizeF_le h.ok hk8
  have hreg : regE (fmtG f first (2 * k + 2) img) (first : Int) ((2 * k + 2 : Nat) : Int) = 0 := by
    unfold regE
    rw [if_neg (by rw [g1.dn]; decide), if_neg (by omega), if_neg (by rw [g3]; omega), if_neg (by rw [g2]; omega)]
  have hop := reg_open hreg (sizeF f (2 * k + 2))
  have hok := fwSpec_ok (n := sizeF f (2 * k + 2)) (by omega)
  have hst : ∀ x, first * (fmtG f first (2 * k + 2) img).pg ≤ x → x < (first + 2) * (fmtG f first (2 * k + 2) img).pg → pageF (fmtG f first (2 * k + 2) img) x = blankP := fun x h1 h2 => by
    rw [g2] at h1 h2
    have : (first + 2) * f.pg ≤ (first + (2 * k + 2)) * f.pg := Nat.mul_le_mul_right _ (by omega)
    rw [g5, if_neg (by omega), if_pos (by omega)]
  obtain ⟨-, -, -, -, -, -, -, -, -, -, s11, -⟩ := Surv.firstR g1.ok hst hok hop
  unfold fmtC fmtS
  have e := commitS_seq (setF (setF (setF (openF (fmtG f first (2 * k + 2) img) first 2 (fwSpec (sizeF f (2 * k + 2)))) 3 v) 4 (img.length : Int)) 5 c) (fmtG f first (2 * k + 2) img)
  rw [setF_seq, setF_seq, setF_seq, s11] at e
  exact e

/-- The bank behind Format. -/
structure Planted (g : Fl) (first k : Nat) (b : Bk) (v : Int) (img : List Int) : Prop where
  up : g.up
  oe : fwOpenE g (first : Int) ((2 * k + 2 : Nat) : Int) = 0
  ob : fwOpenB g (first : Int) ((2 * k + 2 : Nat) : Int) = b
  reg : regE g (first : Int) ((2 * k + 2 : Nat) : Int) = 0
  nb : b = newB b.st first (2 * k + 2)
  ok : BkOk g b
  fr : Fresh g b.st [0, 2, 0, v, (img.length : Int), sumZ img, 0, 0, 0]
  sq : b.st.seq ≤ 2
  im : imgB g b 0 img.length = img
theorem planted {f : Fl} (h : f.up) {first k : Nat} (hk : 1 ≤ k) (hk8 : k ≤ 8) (hw : first + (2 * k + 2) ≤ f.wear.length) (hp : 2 ≤ f.pg) {img : List Int} (hi : Bytes img) (h1 : 1 ≤ img.length) (h2 : img.length ≤ sizeF f (2 * k + 2)) {v : Int} (hv : 1 ≤ v ∧ v ≤ 1073741824) :
    Planted (fmtC f first (2 * k + 2) v (sumZ img) img).2.1 first k (fwOpenB (fmtC f first (2 * k + 2) v (sumZ img) img).2.1 first ((2 * k + 2 : Nat) : Int)) v img ∧ Shape f (fmtC f first (2 * k + 2) v (sumZ img) img).2.1 ∧ (fmtC f first (2 * k + 2) v (sumZ img) img).2.1.picks = f.picks := by
  have hc := sumZ_u32 img
  have fd := fmt_done h hk hk8 hw hp hi h1 h2 hv (c := sumZ img) ⟨hc.1, by have := hc.2; omega⟩
  have hsq := fmt_seq h hk hk8 hw hp hi h2 v (sumZ img)
  obtain ⟨g1, g2, g3, g4, g5, g6, g7, _⟩ := fmtG_blank h hw hk hi h2
  have hgsz : sizeF (fmtG f first (2 * k + 2) img) (2 * k + 2) = sizeF f (2 * k + 2) := by unfold sizeF; rw [g2]
  have hsh : Shape (fmtG f first (2 * k + 2) img) (fmtC f first (2 * k + 2) v (sumZ img) img).2.1 := commitS_shape _ _
  have hpic : (fmtC f first (2 * k + 2) v (sumZ img) img).2.1.picks = (fmtG f first (2 * k + 2) img).picks := by
    unfold fmtC commitS
    split
    · rfl
    · exact runS_picks _ _ _
  have hso : StOk (fmtG f first (2 * k + 2) img) (fmtS (fmtG f first (2 * k + 2) img) first (sizeF f (2 * k + 2)) v img.length (sumZ img)) :=
    setF_ok (setF_ok (setF_ok (openF_ok fd.ok fd.op) (by unfold I64; omega)) (by have := sizeF_le h.ok hk8; unfold I64; omega)) (by have := hc.1; have := hc.2; unfold I64; omega)
  have hfar : ∀ x, (first + 2) * f.pg ≤ x → pageF (fmtC f first (2 * k + 2) v (sumZ img) img).2.1 x = pageF (fmtG f first (2 * k + 2) img) x := fun x hx => by
    refine (commitS_far g1.ok hso (.inr ?_)).1
    have e1 : (fmtS (fmtG f first (2 * k + 2) img) first (sizeF f (2 * k + 2)) v img.length (sumZ img)).first = first := by
      unfold fmtS
      rw [(setF_same _ _ _).first, (setF_same _ _ _).first, (setF_same _ _ _).first]
      exact (openF_sch fd.ok fd.op).kp.f
    have e2 : (fmtS (fmtG f first (2 * k + 2) img) first (sizeF f (2 * k + 2)) v img.length (sumZ img)).blocks = 2 := by
      unfold fmtS
      rw [(setF_same _ _ _).blocks, (setF_same _ _ _).blocks, (setF_same _ _ _).blocks]
      exact (openF_sch fd.ok fd.op).kp.b
    rw [e1, e2, g2]
    exact hx
  obtain ⟨q, hq⟩ : ∃ q, fmtC f first (2 * k + 2) v (sumZ img) img = q := ⟨_, rfl⟩
  have hup := fd.up
  have hsv := fd.sv
  have hsp := fd.sp
  have hfi := fd.fi
  have hbl := fd.bl
  rw [hq] at hsq hsh hpic hfar hup hsv hsp hfi hbl ⊢
  obtain ⟨N, hN⟩ : ∃ N, sizeF f (2 * k + 2) = N := ⟨_, rfl⟩
  have hpg : q.2.1.pg = f.pg := hsh.p.trans g2
  have hwl : q.2.1.wear.length = f.wear.length := hsh.w.trans g3
  have hNq : sizeF q.2.1 (2 * k + 2) = N := by unfold sizeF; rw [hpg, ← hN]; rfl
  have hreg : regE q.2.1 (first : Int) ((2 * k + 2 : Nat) : Int) = 0 := by
    unfold regE
    rw [if_neg (by rw [hup.dn]; decide), if_neg (by omega), if_neg (by rw [hwl]; omega), if_neg (by rw [hpg]; omega)]
  rw [hN] at hsp h2
  obtain ⟨o1, o2, o3, o4, o5, o6⟩ := open_saved hsv hup.dn hsp hfi hbl
  have hob : fwOpenB q.2.1 (first : Int) ((2 * k + 2 : Nat) : Int) = newB (openF q.2.1 first 2 (fwSpec N)) first (2 * k + 2) := by
    unfold fwOpenB
    rw [Int.toNat_natCast, Int.toNat_natCast, hNq]
  have hbok := fwOpen_ok hup.ok hreg
  rw [hob] at hbok ⊢
  have hsq2 : (openF q.2.1 first 2 (fwSpec N)).seq ≤ 2 := by
    have hst : startF q.2.1 = q.2.1 := by unfold startF; rw [if_neg (by rw [hup.dn]; decide)]
    obtain ⟨_, a2, _⟩ := SurQ.again (n := 1) ⟨⟨_, _, hsv⟩, hsq⟩ (by rw [hsp]; exact fwSpec_bad N)
    rw [hst, hsp, hfi, hbl] at a2
    exact a2.2
  have hokN : ∀ p ∈ fwSpec N, p.ok := by have := fd.ok; rw [hN] at this; exact this
  refine ⟨⟨hup, ?_, hob, hreg, rfl, hbok, openF_fresh hokN o1 o2, hsq2, ?_⟩, ⟨hpg, hwl⟩, hpic.trans g4⟩
  · unfold fwOpenE
    rw [if_neg (by rw [hreg]; decide), Int.toNat_natCast, Int.toNat_natCast, hNq]
    simp only [o3]
    rw [if_neg]
    show ¬ ((img.length : Nat) : Int) = 0
    omega
  · unfold imgB
    have hb0 : blkB (newB (openF q.2.1 first 2 (fwSpec N)) first (2 * k + 2)) 0 = first + 2 := by unfold blkB; rw [Nat.zero_mul]; rfl
    rw [hb0, hpg]
    refine img_of_pages fun i hi => ?_
    rw [hfar _ (by omega), g5, if_pos (by omega), Nat.add_sub_cancel_left]
end Go.Proofs.Ytjdknddnanopaaa
