/-
  Several texts in one: G1, F9, F12, F15, F16, G2.
-/
import Derived.Test.YtjdknddnanopaaaF8
import Derived.Test.YtjdknddnanopaaaPlainJ
import Derived.Deep.RegionHeld
import Derived.Lib.SmallJoins
/-
  Firmware: what the store's operations leave alone; the image that Format lays; the bank behind Format. No program in sight.
-/
namespace Go.Proofs.Ytjdknddnanopaaa
open Go.RowKit
set_option linter.unusedVariables false

theorem eraseF_far {f : Fl} (h : f.ok) {B x : Nat} (hx : ¬ (B * f.pg ≤ x ∧ x < B * f.pg + f.pg)) : pageF (eraseF f (B : Int)).1 x = pageF f x := by
  by_cases hd : f.down = true
  · unfold eraseF; rw [if_pos hd]
  by_cases hB : B < f.wear.length
  · rcases (erase_pages h (by simpa using hd) hB).ok with ⟨_, _, e⟩ | ⟨_, _, e⟩ <;> rw [e, if_neg hx]
  · unfold eraseF; rw [if_neg hd, if_pos (by omega)]
theorem progF_far {f : Fl} (h : f.ok) {P x : Nat} {b : List Int} (hb : b.length = 64) (hx : x ≠ P) : pageF (progF f (P : Int) b).1 x = pageF f x := by
  by_cases ha : atF f (P : Int) = 0
  · obtain ⟨hd, _, hP⟩ := atF_zero ha
    have hP' : P < f.wear.length * f.pg := by omega
    by_cases hbl : pageF f P = blankP
    · rcases (prog_pages h hd hP' hb hbl).ok with ⟨_, _, e⟩ | ⟨_, _, e⟩ <;> rw [e, if_neg hx]
    · have hnb : blankF (pageF f P) = false := by
        cases hbb : blankF (pageF f P) with
        | false => rfl
        | true => exact absurd ((blankF_blank (pageF_len h hP')).1 hbb) hbl
      unfold progF
      rw [if_neg (by rw [ha]; simp), if_neg (by omega), Int.toNat_natCast, if_pos hnb]
  · unfold progF
    rw [if_pos ha]
theorem opS_far {f : Fl} {s : St} (hf : f.ok) (ho : StOk f s) (hb : s.busy = true) (hr : s.broken = false) {x : Nat} (hx : x < s.first * f.pg ∨ (s.first + s.blocks) * f.pg ≤ x) : pageF (opS s f).1 x = pageF f x := by
  unfold opS
  split
  · rw [show (s.first : Int) + (s.dest : Int) = ((s.first + s.dest : Nat) : Int) by push_cast; rfl]
    have h1 : (s.first + s.dest) * f.pg + f.pg ≤ (s.first + s.blocks) * f.pg := by
      have := Nat.mul_le_mul_right f.pg (show s.first + s.dest + 1 ≤ s.first + s.blocks by have := ho.tb; omega)
      rw [Nat.add_mul (s.first + s.dest), Nat.one_mul] at this
      exact this
    have h2 : s.first * f.pg ≤ (s.first + s.dest) * f.pg := Nat.mul_le_mul_right _ (by omega)
    exact eraseF_far hf (by omega)
  · have hd := ho.dn hb hr
    obtain ⟨h1, h2⟩ := ho.in_region ho.tb ho.ts hd
    have hl : (s.pages[s.done]?.getD []).length = 64 := by
      obtain ⟨p, hp⟩ := getElem?_of_lt (l := s.pages) (k := s.done) (by rw [ho.pl hb]; exact hd)
      rw [hp]
      exact (ho.pb p (List.mem_of_getElem? hp)).1
    exact progF_far hf hl (by omega)
theorem stepS_far {f : Fl} {s : St} (hf : f.ok) (ho : StOk f s) {x : Nat} (hx : x < s.first * f.pg ∨ (s.first + s.blocks) * f.pg ≤ x) : pageF (stepS s f).2.1 x = pageF f x := by
  unfold stepS
  split
  · rfl
  rename_i h1
  split
  · rfl
  rename_i h2
  have := opS_far hf ho (by simpa using h2) (by simpa using h1) hx
  split
  · exact this
  split <;> exact this
theorem opS_ok2 {f : Fl} {s : St} (hf : f.ok) (ho : StOk f s) : (opS s f).1.ok := by
  unfold opS
  split
  · exact eraseF_ok hf
  · refine progF_ok hf ?_
    cases hp : s.pages[s.done]? with
    | none => exact Bytes.nil
    | some p => exact (ho.pb p (List.mem_of_getElem? hp)).2
theorem stepS_fok {f : Fl} {s : St} (hf : f.ok) (ho : StOk f s) : (stepS s f).2.1.ok := by
  unfold stepS
  split
  · exact hf
  split
  · exact hf
  have := opS_ok2 hf ho
  split
  · exact this
  split <;> exact this
theorem runS_far : ∀ (n : Nat) {f : Fl} {s : St} (hf : f.ok) (ho : StOk f s) {x : Nat} (hx : x < s.first * f.pg ∨ (s.first + s.blocks) * f.pg ≤ x), pageF (runS n s f).2.1 x = pageF f x ∧ (runS n s f).2.1.ok
  | 0, f, s, hf, ho, x, hx => ⟨rfl, hf⟩
  | n + 1, f, s, hf, ho, x, hx => by
    have h1 := stepS_far hf ho hx
    have h2 := stepS_fok hf ho
    rw [runS_succ]
    split
    · exact ⟨h1, h2⟩
    · have hsm := stepS_same s f
      have hsh := stepS_shape s f
      obtain ⟨h3, h4⟩ := runS_far n h2 (stepS_ok ho) (x := x) (by rw [hsm.first, hsm.blocks, hsh.p]; exact hx)
      exact ⟨h3.trans h1, h4⟩
theorem commitS_far {f : Fl} {s : St} (hf : f.ok) (ho : StOk f s) {x : Nat} (hx : x < s.first * f.pg ∨ (s.first + s.blocks) * f.pg ≤ x) : pageF (commitS s f).2.1 x = pageF f x ∧ (commitS s f).2.1.ok := by
  unfold commitS
  split
  · exact ⟨rfl, hf⟩
  · have hsm := beginS_same s f
    exact runS_far 10 hf (beginS_ok ho) (by rw [hsm.first, hsm.blocks]; exact hx)
theorem runS_shape : ∀ (n : Nat) (s : St) (f : Fl), Shape f (runS n s f).2.1
  | 0, s, f => Shape.refl f
  | n + 1, s, f => by
    rw [runS_succ]
    split
    · exact stepS_shape s f
    · exact (stepS_shape s f).trans (runS_shape n _ _)
theorem commitS_shape (s : St) (f : Fl) : Shape f (commitS s f).2.1 := by
  unfold commitS
  split
  · exact Shape.refl f
  · exact runS_shape _ _ _

theorem stepS_picks (s : St) (f : Fl) : (stepS s f).2.1.picks = f.picks := by
  unfold stepS
  split
  · rfl
  split
  · rfl
  split
  · exact opS_picks s f
  split <;> exact opS_picks s f
theorem runS_picks : ∀ (n : Nat) (s : St) (f : Fl), (runS n s f).2.1.picks = f.picks
  | 0, s, f => rfl
  | n + 1, s, f => by
    rw [runS_succ]
    split
    · exact stepS_picks s f
    · exact (runS_picks n _ _).trans (stepS_picks s f)
/-- The bytes of a slot, from its pages. -/
theorem img_of_pages {g : Fl} {a : Nat} {img : List Int} (h : ∀ i, i < nPages img.length → pageF g (a + i) = padB (chunkB img i)) : (g.img.drop (64 * a)).take img.length = img := by
  apply List.ext_getElem?
  intro i
  rw [List.getElem?_take]
  split
  · rename_i hi
    have hk : i / 64 < nPages img.length := by unfold nPages; omega
    have hp : (pageF g (a + i / 64))[i % 64]? = (padB (chunkB img (i / 64)))[i % 64]? := by rw [h (i / 64) hk]
    unfold pageF at hp
    rw [List.getElem?_take, if_pos (Nat.mod_lt _ (by omega)), List.getElem?_drop] at hp
    rw [List.getElem?_drop, show 64 * a + i = 64 * (a + i / 64) + i % 64 by omega, hp]
    unfold padB chunkB
    have hl : i % 64 < (List.take 64 (List.drop (64 * (i / 64)) img)).length := by rw [List.length_take, List.length_drop]; omega
    rw [List.getElem?_append_left hl, List.getElem?_take, if_pos (Nat.mod_lt _ (by omega)), List.getElem?_drop, show 64 * (i / 64) + i % 64 = i by omega]
  · rename_i hi
    rw [List.getElem?_eq_none (by omega)]

/-- A fresh store: nothing is under way. -/
structure Fresh (f : Fl) (s : St) (v : List Int) : Prop where
  sv : Surv f s v none
  up : f.down = false
  bu : s.busy = false
  br : s.broken = false
  st : s.staged = s.saved
theorem openF_fresh {f : Fl} {fi bl : Nat} {sp : List Par} {v : List Int} (hs : ∀ p ∈ sp, p.ok) (he : openE f fi bl sp = 0) (h : Surv f (openF f fi bl sp) v none) : Fresh f (openF f fi bl sp) v := by
  have hd := (openE_zero he).1
  have hs := openF_sch hs he
  exact ⟨h, hd, hs.re.2.2.2.2.2.2.2, hs.re.1, rfl⟩

theorem fmt_seq {f : Fl} (h : f.up) {first k : Nat} (hk : 1 ≤ k) (hk8 : k ≤ 8) (hw : first + (2 * k + 2) ≤ f.wear.length) (hp : 2 ≤ f.pg) {img : List Int} (hi : Bytes img) (h2 : img.length ≤ sizeF f (2 * k + 2)) (v c : Int) : (fmtC f first (2 * k + 2) v c img).1.seq ≤ 1 := by
  obtain ⟨g1, g2, g3, g4, g5, g6, g7, _⟩ := fmtG_blank h hw hk hi h2
  have hsz := sizeF_le h.ok hk8
  have hreg : regE (fmtG f first (2 * k + 2) img) (first : Int) ((2 * k + 2 : Nat) : Int) = 0 := by
    unfold regE
    rw [if_neg (by rw [g1.dn]; decide), if_neg (by omega), if_neg (by rw [g3]; omega), if_neg (by rw [g2]; omega)]
  have hop := reg_open hreg (sizeF f (2 * k + 2))
  have hok := fwSpec_ok (n := sizeF f (2 * k + 2)) (by omega)
  have hst : ∀ x, first * (fmtG f first (2 * k + 2) img).pg ≤ x → x < (first + 2) * (fmtG f first (2 * k + 2) img).pg → pageF (fmtG f first (2 * k + 2) img) x = blankP := fun x h1 h2 => by
    rw [g2] at h1 h2
    have : (first + 2) * f.pg ≤ (first + (2 * k + 2)) * f.pg := Nat.mul_le_mul_right _ (by omega)
    rw [g5, if_neg (by omega), if_pos (by omega)]
  obtain ⟨-, -, -, -, -, -, -, -, -, -, s11, -⟩ := Surv.firstR g1.ok hst hok hop
  unfold fmtC fmtS
  have e := commitS_seq (setF (setF (setF (openF (fmtG f first (2 * k + 2) img) first 2 (fwSpec (sizeF f (2 * k + 2)))) 3 v) 4 (img.length : Int)) 5 c) (fmtG f first (2 * k + 2) img)
  rw [setF_seq, setF_seq, setF_seq, s11] at e
  exact e

/-- The bank behind Format. -/
structure Planted (g : Fl) (first k : Nat) (b : Bk) (v : Int) (img : List Int) : Prop where
  up : g.up
  oe : fwOpenE g (first : Int) ((2 * k + 2 : Nat) : Int) = 0
  ob : fwOpenB g (first : Int) ((2 * k + 2 : Nat) : Int) = b
  reg : regE g (first : Int) ((2 * k + 2 : Nat) : Int) = 0
  nb : b = newB b.st first (2 * k + 2)
  ok : BkOk g b
  fr : Fresh g b.st [0, 2, 0, v, (img.length : Int), sumZ img, 0, 0, 0]
  sq : b.st.seq ≤ 2
  im : imgB g b 0 img.length = img
theorem planted {f : Fl} (h : f.up) {first k : Nat} (hk : 1 ≤ k) (hk8 : k ≤ 8) (hw : first + (2 * k + 2) ≤ f.wear.length) (hp : 2 ≤ f.pg) {img : List Int} (hi : Bytes img) (h1 : 1 ≤ img.length) (h2 : img.length ≤ sizeF f (2 * k + 2)) {v : Int} (hv : 1 ≤ v ∧ v ≤ 1073741824) :
    Planted (fmtC f first (2 * k + 2) v (sumZ img) img).2.1 first k (fwOpenB (fmtC f first (2 * k + 2) v (sumZ img) img).2.1 first ((2 * k + 2 : Nat) : Int)) v img ∧ Shape f (fmtC f first (2 * k + 2) v (sumZ img) img).2.1 ∧ (fmtC f first (2 * k + 2) v (sumZ img) img).2.1.picks = f.picks := by
  have hc := sumZ_u32 img
  have fd := fmt_done h hk hk8 hw hp hi h1 h2 hv (c := sumZ img) ⟨hc.1, by have := hc.2; omega⟩
  have hsq := fmt_seq h hk hk8 hw hp hi h2 v (sumZ img)
  obtain ⟨g1, g2, g3, g4, g5, g6, g7, _⟩ := fmtG_blank h hw hk hi h2
  have hgsz : sizeF (fmtG f first (2 * k + 2) img) (2 * k + 2) = sizeF f (2 * k + 2) := by unfold sizeF; rw [g2]
  have hsh : Shape (fmtG f first (2 * k + 2) img) (fmtC f first (2 * k + 2) v (sumZ img) img).2.1 := commitS_shape _ _
  have hpic : (fmtC f first (2 * k + 2) v (sumZ img) img).2.1.picks = (fmtG f first (2 * k + 2) img).picks := by
    unfold fmtC commitS
    split
    · rfl
    · exact runS_picks _ _ _
  have hso : StOk (fmtG f first (2 * k + 2) img) (fmtS (fmtG f first (2 * k + 2) img) first (sizeF f (2 * k + 2)) v img.length (sumZ img)) :=
    setF_ok (setF_ok (setF_ok (openF_ok fd.ok fd.op) (by unfold I64; omega)) (by have := sizeF_le h.ok hk8; unfold I64; omega)) (by have := hc.1; have := hc.2; unfold I64; omega)
  have hfar : ∀ x, (first + 2) * f.pg ≤ x → pageF (fmtC f first (2 * k + 2) v (sumZ img) img).2.1 x = pageF (fmtG f first (2 * k + 2) img) x := fun x hx => by
    refine (commitS_far g1.ok hso (.inr ?_)).1
    have e1 : (fmtS (fmtG f first (2 * k + 2) img) first (sizeF f (2 * k + 2)) v img.length (sumZ img)).first = first := by
      unfold fmtS
      rw [(setF_same _ _ _).first, (setF_same _ _ _).first, (setF_same _ _ _).first]
      exact (openF_sch fd.ok fd.op).kp.f
    have e2 : (fmtS (fmtG f first (2 * k + 2) img) first (sizeF f (2 * k + 2)) v img.length (sumZ img)).blocks = 2 := by
      unfold fmtS
      rw [(setF_same _ _ _).blocks, (setF_same _ _ _).blocks, (setF_same _ _ _).blocks]
      exact (openF_sch fd.ok fd.op).kp.b
    rw [e1, e2, g2]
    exact hx
  obtain ⟨q, hq⟩ : ∃ q, fmtC f first (2 * k + 2) v (sumZ img) img = q := ⟨_, rfl⟩
  have hup := fd.up
  have hsv := fd.sv
  have hsp := fd.sp
  have hfi := fd.fi
  have hbl := fd.bl
  rw [hq] at hsq hsh hpic hfar hup hsv hsp hfi hbl ⊢
  obtain ⟨N, hN⟩ : ∃ N, sizeF f (2 * k + 2) = N := ⟨_, rfl⟩
  have hpg : q.2.1.pg = f.pg := hsh.p.trans g2
  have hwl : q.2.1.wear.length = f.wear.length := hsh.w.trans g3
  have hNq : sizeF q.2.1 (2 * k + 2) = N := by unfold sizeF; rw [hpg, ← hN]; rfl
  have hreg : regE q.2.1 (first : Int) ((2 * k + 2 : Nat) : Int) = 0 := by
    unfold regE
    rw [if_neg (by rw [hup.dn]; decide), if_neg (by omega), if_neg (by rw [hwl]; omega), if_neg (by rw [hpg]; omega)]
  rw [hN] at hsp h2
  obtain ⟨o1, o2, o3, o4, o5, o6⟩ := open_saved hsv hup.dn hsp hfi hbl
  have hob : fwOpenB q.2.1 (first : Int) ((2 * k + 2 : Nat) : Int) = newB (openF q.2.1 first 2 (fwSpec N)) first (2 * k + 2) := by
    unfold fwOpenB
    rw [Int.toNat_natCast, Int.toNat_natCast, hNq]
  have hbok := fwOpen_ok hup.ok hreg
  rw [hob] at hbok ⊢
  have hsq2 : (openF q.2.1 first 2 (fwSpec N)).seq ≤ 2 := by
    have hst : startF q.2.1 = q.2.1 := by unfold startF; rw [if_neg (by rw [hup.dn]; decide)]
    obtain ⟨_, a2, _⟩ := SurQ.again (n := 1) ⟨⟨_, _, hsv⟩, hsq⟩ (by rw [hsp]; exact fwSpec_bad N)
    rw [hst, hsp, hfi, hbl] at a2
    exact a2.2
  have hokN : ∀ p ∈ fwSpec N, p.ok := by have := fd.ok; rw [hN] at this; exact this
  refine ⟨⟨hup, ?_, hob, hreg, rfl, hbok, openF_fresh hokN o1 o2, hsq2, ?_⟩, ⟨hpg, hwl⟩, hpic.trans g4⟩
  · unfold fwOpenE
    rw [if_neg (by rw [hreg]; decide), Int.toNat_natCast, Int.toNat_natCast, hNq]
    simp only [o3]
    rw [if_neg]
    show ¬ ((img.length : Nat) : Int) = 0
    omega
  · unfold imgB
    have hb0 : blkB (newB (openF q.2.1 first 2 (fwSpec N)) first (2 * k + 2)) 0 = first + 2 := by unfold blkB; rw [Nat.zero_mul]; rfl
    rw [hb0, hpg]
    refine img_of_pages fun i hi => ?_
    rw [hfar _ (by omega), g5, if_pos (by omega), Nat.add_sub_cancel_left]
end Go.Proofs.Ytjdknddnanopaaa

/-
  Firmware: Boot, Abort, Running, Trial of a bank.
-/
namespace Go.Proofs.Ytjdknddnanopaaa
open Go.RowKit
set_option linter.unusedVariables false
set_option linter.unusedSimpArgs false

theorem rdy_br {f : Fl} {b : Bk} (h : BkOk f b) : (rdyB b f).st.broken = false ∨ (rdyB b f).broken = true := by
  rcases h.br with e | e
  · exact .inl e
  · exact .inr (by show (b.broken || f.down) = true; rw [e]; rfl)
theorem rdy_ok {f : Fl} {b : Bk} (h : BkOk f b) : BkOk f (rdyB b f) :=
  ⟨h.ok, h.sp, h.fi, h.bl, h.lg, rdy_br h, h.bk, h.k1, h.k8, h.fw, h.pg, h.slot, h.dst, h.ver, h.len, h.fed, h.er, h.dt, h.page⟩
theorem rdy_up {f : Fl} {b : Bk} (h : (rdyB b f).broken = false) : b.broken = false ∧ f.down = false := by
  have : (b.broken || f.down) = false := h
  simpa using this
theorem BkOk.st_up {f : Fl} {b : Bk} (h : BkOk f b) (hb : b.broken = false) : b.st.broken = false := by
  rcases h.br with e | e
  · exact e
  · rw [hb] at e; cases e
theorem BkOk.sp9 {f : Fl} {b : Bk} (h : BkOk f b) : b.st.spec.length = 9 := by rw [h.sp]; rfl
theorem BkOk.ne {f : Fl} {b : Bk} (h : BkOk f b) : ∀ d, b.data = some d → d ≠ [] := fun d hd e => by
  have := (h.dt d hd).1
  rw [e] at this
  simp at this

section
variable {w0 w w1 w' : World} {L L' : Lc} {S S' : Sc} {K K' : Kc} {f f' : Fl} {b b' : Bk}
theorem BkTo.then (h : Aft w w1 L S K L' S' K') (k : BkTo w0 w1 L' S' K' f b w') : BkTo w0 w L S K f b w' := by
  obtain ⟨L2, S2, K2, h1, h2⟩ := k
  exact ⟨L2, S2, K2, h.trans h1, h2⟩
theorem BkTo.mk' (h : Aft w w' L S K L' S' K') (k : BkAt w0 w' L' S' K' f b) : BkTo w0 w L S K f b w' := ⟨L', S', K', h, k⟩
theorem Aft.bank (h : OnlyX (fun g => g = K.D) w w') : Aft w w' L S K L S K := Aft.of_bank h rfl (fun g _ h => h)

/-- A literal of integers, beside the bank. -/
theorem BkAt.lit (h : BkAt w0 w L S K f b) (cs : Array Value) (l : List Int) (hl : cs.toList = icells l) (W : World) (hW : w.alloc (.cells cs 3) = W) :
    BkAt w0 W L S K f b ∧ Aft w W L S K L S K ∧ RdX (Own5 L S) W (some ⟨w.heap.size, 0, none⟩) (icells l) := by
  have hb : Below w.heap.size w W := by rw [← hW]; exact (Below.refl _ _).alloc (Nat.le_refl _) _
  refine ⟨h.later hb, Aft.of_below hb, ?_⟩
  rw [← hW]
  refine rdx_at (Rd.new w _ _ _ hl) (by rw [World.size_alloc]; exact Nat.le_refl _) (fun hx => ?_)
  have := h.st.own_lt _ (.inl hx)
  omega

theorem fset_lit (h : BkAt w0 w L S K f b) (ho : StOk f b.st) (ii : Int) (i : Nat) (hii : ii = i) (hi : i ≤ 9) (cs : Array Value) (l : List Int) (hl : cs.toList = icells l) (n : Nat) (hn : l.length = n) (hn9 : n ≤ 9) (hok : setOk b.st i l) (hI : ∀ x ∈ l, I64 x) :
    Calls Try.prog 78 #[.pointer (some ⟨K.D, 0, none⟩), .int .i64 ii, .slice (some ⟨w.heap.size, 0, none⟩) n n] (w.alloc (.cells cs 3)) fun e w' => e = .returned .nilIface ∧ BkAt w0 w' L S K f { b with st := setN b.st i l } ∧ Aft w w' L S K L S K := by
  obtain ⟨h1, h2, h3⟩ := h.lit cs l hl _ rfl
  refine (fset_any h1 ho ii i hii hi hn hn9 h3 hok hI).mono ?_
  rintro e w' ⟨he, hk, hx⟩
  exact ⟨he, hk, h2.trans (Aft.of_store hx rfl rfl)⟩

def BootR (w0 w : World) (L : Lc) (S : Sc) (K : Kc) (q : Bk × Fl × Int × Int) (e : Ending) (w' : World) : Prop :=
  e = .returned (.tuple #[.int .i64 q.2.2.1, errV q.2.2.2]) ∧ BkTo w0 w L S K q.2.1 q.1 w'

set_option maxRecDepth 100000 in
set_option maxHeartbeats 2000000 in
theorem fboot_any (h : BkAt w0 w L S K f b) (ho : BkOk f b) : Calls Try.prog 26 #[.pointer (some ⟨K.D, 0, none⟩)] w (BootR w0 w L S K (bootB b f)) := by
  have g1 := ne_nil
  have g2 := ne_err
  have g3 := eq_nil
  have g4 := eq_err
  have HR := Lib.hid (fready_any h)
  have HO := Lib.hid (rdy_ok ho)
  have h9 := ho.sp9
  by_cases hbr : (rdyB b f).broken = true
  · have HB : Hid (bootB b f = (rdyB b f, f, 0, 20)) := by unfold bootB; rw [Hid, if_pos hbr]
    rw [if_pos hbr, errV_ne (by decide)] at HR
    clear h ho hbr h9
    go_enter Try.func26, Try.ntmps26
    go_wp2_with (fail)
    (with_reducible refine HR.out.mono ?_)
    rintro e w1 ⟨rfl, hK, hX⟩
    have HK := Lib.hid hK
    have HX := Lib.hid hX
    clear hK hX
    go_wp2
    go_ret2
    rw [HB.out]
    exact ⟨rfl, .mk' (.bank HX.out) HK.out⟩
  have hbf : (rdyB b f).broken = false := by simpa using hbr
  rw [if_neg hbr, errV_zero] at HR
  have HU := Lib.hid (rdy_up hbf)
  have HSB := Lib.hid (ho.st_up HU.out.1)
  by_cases hs : b.slot ≠ 2
  · have HB : Hid (bootB b f = (rdyB b f, f, 0, 12)) := by unfold bootB; rw [Hid, if_neg hbr, if_pos hs]
    have s1 : ¬ (b.slot : Int) = 2 := by omega
    have s2 : ((b.slot : Int) == 2) = false := by simpa using s1
    clear h ho hbr h9 hbf hs
    go_enter Try.func26, Try.ntmps26
    go_wp2_with (fail)
    (with_reducible refine HR.out.mono ?_)
    rintro e w1 ⟨rfl, hK, hX⟩
    have HK := Lib.hid hK
    have HX := Lib.hid hX
    have c5 : w1.cell? ⟨K.D, 5, none⟩ = some (.int .i64 b.slot) := hK.row 5 _ rfl
    clear hK hX
    go_wp2
    go_ret2
    rw [HB.out]
    exact ⟨rfl, .mk' (.bank HX.out) HK.out⟩
  have hs2 : b.slot = 2 := by omega
  obtain ⟨va, vt, vk, v0, l0, c0, v1, l1, c1, hv, b1, b2, b3, -⟩ := ho.vec
  have hv0 : savB b 0 = (va : Int) := by unfold savB; rw [hv]; rfl
  have hv1 : savB b 1 = (vt : Int) := by unfold savB; rw [hv]; rfl
  have hv2 : savB b 2 = (vk : Int) := by unfold savB; rw [hv]; rfl
  have HV0 : Hid (savB (rdyB b f) 0 = (va : Int)) := hv0
  have HV1 : Hid (savB (rdyB b f) 1 = (vt : Int)) := hv1
  have HV2 : Hid (savB (rdyB b f) 2 = (vk : Int)) := hv2
  have HS9 : Hid ((rdyB b f).st.spec.length = 9) := h9
  have HSP := Lib.hid ho.sp
  by_cases ht : vt = 2
  · have HB : Hid (bootB b f = ({ rdyB b f with slot := va }, f, (va : Int), 0)) := by
      unfold bootB
      rw [Hid, if_neg hbr, if_neg hs, hv1, if_pos (by omega), hv0, Int.toNat_natCast]
    subst ht
    clear h ho hbr h9 hbf hs hv hv0 hv1 hv2
    go_enter Try.func26, Try.ntmps26
    go_wp2_with (fail)
    (with_reducible refine HR.out.mono ?_)
    rintro e w1 ⟨rfl, hK, hX⟩
    have HK := Lib.hid hK
    have HX := Lib.hid hX
    have c5 : w1.cell? ⟨K.D, 5, none⟩ = some (.int .i64 b.slot) := hK.row 5 _ rfl
    rw [hs2] at c5
    clear hK hX
    go_wp2_with (fail)
    (with_reducible refine (fsaved_any HK.out HO.out.ok 0 0 rfl (by rw [HS9.out]; omega)).mono ?_)
    rintro e w2 ⟨rfl, hB⟩
    rw [HV0.out]
    have HK2 := Lib.hid (HK.out.later hB)
    have HA2 : Hid (Aft w w2 L S K L S K) := (Aft.bank HX.out).trans (Aft.of_below hB)
    clear hB
    go_wp2_with (fail)
    (with_reducible refine (fsaved_any HK2.out HO.out.ok 1 1 rfl (by rw [HS9.out]; omega)).mono ?_)
    rintro e w3 ⟨rfl, hB⟩
    rw [HV1.out]
    have HK3 := Lib.hid (HK2.out.later hB)
    have HA3 : Hid (Aft w w3 L S K L S K) := HA2.out.trans (Aft.of_below hB)
    have d5 : w3.cell? ⟨K.D, 5, none⟩ = some (.int .i64 b.slot) := HK3.out.row 5 _ rfl
    have z5 := HK3.out.fz 5
    have HC := Lib.hid (HK3.out.cell' 5 (.int .i64 va) { rdyB b f with slot := va } rfl rfl rfl rfl)
    clear hB
    go_wp2
    go_ret2
    rw [HB.out]
    exact ⟨rfl, .mk' (HA3.out.trans (.bank HC.out.2)) HC.out.1⟩
  -- a trial
  have hE : ∃ (i : Nat) (ii x run : Int) (rn : Nat), ii = i ∧ run = rn ∧ ((0 < vk ∧ i = 2 ∧ ii = 2 ∧ x = (vk : Int) - 1 ∧ run = vt ∧ rn = vt) ∨ (vk = 0 ∧ i = 1 ∧ ii = 1 ∧ x = 2 ∧ run = va ∧ rn = va)) ∧ setOk b.st i [x] ∧ I64 x ∧
      bootB b f = if (commitS (setN b.st i [x]) f).2.2 ≠ 0 then ({ rdyB b f with st := (commitS (setN b.st i [x]) f).1, broken := true }, (commitS (setN b.st i [x]) f).2.1, 0, 20) else ({ rdyB b f with st := (commitS (setN b.st i [x]) f).1, slot := rn }, (commitS (setN b.st i [x]) f).2.1, run, 0) := by
    by_cases hk : 0 < vk
    · refine ⟨2, 2, (vk : Int) - 1, vt, vt, rfl, rfl, .inl ⟨hk, rfl, rfl, rfl, rfl, rfl⟩, ⟨(set_fw HSB.out HSP.out (i := 2) (p := ⟨0, 3, 0⟩) rfl ⟨by simp only; omega, by simp only; omega⟩).1, trivial⟩, by unfold I64; omega, ?_⟩
      unfold bootB
      rw [if_neg hbr, if_neg hs, hv1, if_neg (by omega), hv2]
      simp only [if_pos (show (0 : Int) < (vk : Int) by omega), Int.toNat_natCast]
      rfl
    · have hk0 : vk = 0 := by omega
      refine ⟨1, 1, 2, va, va, rfl, rfl, .inr ⟨hk0, rfl, rfl, rfl, rfl, rfl⟩, ⟨(set_fw HSB.out HSP.out (i := 1) (p := ⟨0, 2, 2⟩) rfl ⟨by simp only; omega, by simp only; omega⟩).1, trivial⟩, by unfold I64; omega, ?_⟩
      unfold bootB
      rw [if_neg hbr, if_neg hs, hv1, if_neg (by omega), hv2]
      simp only [if_neg (show ¬ (0 : Int) < (vk : Int) by omega), hv0, Int.toNat_natCast]
      rfl
  obtain ⟨i, ii, x, run, rn, hii, hrn, hcs, hok, hx64, hBB⟩ := hE
  have HBB := Lib.hid hBB
  have HOK : Hid (setOk (rdyB b f).st i [x]) := hok
  have HX64 := Lib.hid hx64
  have HSO : Hid (StOk f (setN b.st i [x])) := setN_ok ho.ok (fun y hy => by rw [List.mem_singleton] at hy; subst hy; exact hx64)
  have ht1 : ¬ (vt : Int) = 2 := by omega
  have ht2 : ((vt : Int) == 2) = false := by simpa using ht1
  have HRN := Lib.hid hrn
  have hi9 : i ≤ 9 := by rcases hcs with h | h <;> omega
  have FS : Hid (∀ w4 : World, BkAt w0 w4 L S K f (rdyB b f) → Calls Try.prog 78 #[.pointer (some ⟨K.D, 0, none⟩), .int .i64 ii, .slice (some ⟨w4.heap.size, 0, none⟩) 1 1] (w4.alloc (.cells #[.int .i64 x] 3)) fun e w' => e = .returned .nilIface ∧ BkAt w0 w' L S K f { rdyB b f with st := setN b.st i [x] } ∧ Aft w4 w' L S K L S K) :=
    fun w4 hK => fset_lit hK ho.ok ii i hii hi9 #[.int .i64 x] [x] rfl 1 rfl (by omega) hok (fun y hy => by rw [List.mem_singleton] at hy; subst hy; exact hx64)
  obtain ⟨q, hq⟩ : ∃ q, commitS (setN b.st i [x]) f = q := ⟨_, rfl⟩
  have CM : Hid (∀ w5 : World, StAt w0 w5 L S f (setN b.st i [x]) → Calls Try.prog 68 #[.pointer (some ⟨S.D, 0, none⟩)] w5 (CommitR w0 w5 L S q)) := fun w5 hs => by
    have := commit_any hs HSO.out
    rw [hq] at this
    exact this
  rw [hq] at HBB
  obtain ⟨qs, qf, qe⟩ := q
  simp only at HBB
  clear h ho hbr h9 hbf hs hv hv0 hv1 hv2 hBB hok hx64 hq hii
  rcases hcs with ⟨hk, rfl, rfl, rfl, rfl, rfl⟩ | ⟨hk, rfl, rfl, rfl, rfl, rfl⟩
  all_goals
    try (have hk1 : (0 : Int) < (vk : Int) := by omega)
    go_enter Try.func26, Try.ntmps26
    go_wp2_with (fail)
    (with_reducible refine HR.out.mono ?_)
    rintro e w1 ⟨rfl, hK, hX⟩
    have HK := Lib.hid hK
    have HX := Lib.hid hX
    have c5 : w1.cell? ⟨K.D, 5, none⟩ = some (.int .i64 b.slot) := hK.row 5 _ rfl
    rw [hs2] at c5
    clear hK hX
    go_wp2_with (fail)
    (with_reducible refine (fsaved_any HK.out HO.out.ok 0 0 rfl (by rw [HS9.out]; omega)).mono ?_)
    rintro e w2 ⟨rfl, hB⟩
    rw [HV0.out]
    have HK2 := Lib.hid (HK.out.later hB)
    have HA2 : Hid (Aft w w2 L S K L S K) := (Aft.bank HX.out).trans (Aft.of_below hB)
    clear hB c5
    go_wp2_with (fail)
    (with_reducible refine (fsaved_any HK2.out HO.out.ok 1 1 rfl (by rw [HS9.out]; omega)).mono ?_)
    rintro e w3 ⟨rfl, hB⟩
    rw [HV1.out]
    have HK3 := Lib.hid (HK2.out.later hB)
    have HA3 : Hid (Aft w w3 L S K L S K) := HA2.out.trans (Aft.of_below hB)
    clear hB
    go_wp2_with (fail)
    (with_reducible refine (fsaved_any HK3.out HO.out.ok 2 2 rfl (by rw [HS9.out]; omega)).mono ?_)
    rintro e w4 ⟨rfl, hB⟩
    rw [HV2.out]
    have HK4 := Lib.hid (HK3.out.later hB)
    have HA4 : Hid (Aft w w4 L S K L S K) := HA3.out.trans (Aft.of_below hB)
    clear hB
    go_wp2_with (fail)
    (with_reducible refine (FS.out _ HK4.out).mono ?_)
    rintro e w5 ⟨rfl, hK, hA⟩
    have HK5 := Lib.hid hK
    have HA5 : Hid (Aft w w5 L S K L S K) := HA4.out.trans hA
    have c3 : w5.cell? ⟨K.D, 3, none⟩ = some (.pointer (some ⟨S.D, 0, none⟩)) := hK.row 3 _ rfl
    have HCM := Lib.hid (CM.out _ hK.st)
    unfold CommitR at HCM
    clear hK hA
    by_cases hq0 : qe = 0
    · rw [if_neg (by rw [hq0]; decide)] at HBB
      simp only at HCM
      rw [hq0, errV_zero] at HCM
      clear hq0
      go_wp2_with (fail)
      (with_reducible refine HCM.out.mono ?_)
      rintro e w6 ⟨rfl, ⟨S6, hd6, hg6, hs6⟩, ho6⟩
      have HK6 := Lib.hid (HK5.out.prog hs6 hd6 hg6 ho6)
      have HA6 : Hid (Aft w w6 L S K L S6 K) := HA5.out.trans (Aft.of_store ho6 hd6 hg6)
      have d5 : w6.cell? ⟨K.D, 5, none⟩ = some (.int .i64 b.slot) := HK6.out.row 5 _ rfl
      have z5 := HK6.out.fz 5
      have HC := Lib.hid (HK6.out.cell' 5 (.int .i64 rn) { rdyB b f with st := qs, slot := rn } rfl rfl rfl rfl)
      clear hd6 hg6 hs6 ho6 c3
      go_wp2
      go_ret2
      rw [HBB.out]
      exact ⟨rfl, .mk' (HA6.out.trans (.bank HC.out.2)) HC.out.1⟩
    · rw [if_pos hq0] at HBB
      simp only at HCM
      rw [errV_ne hq0] at HCM
      clear hq0
      go_wp2_with (fail)
      (with_reducible refine HCM.out.mono ?_)
      rintro e w6 ⟨rfl, ⟨S6, hd6, hg6, hs6⟩, ho6⟩
      have HK6 := Lib.hid (HK5.out.prog hs6 hd6 hg6 ho6)
      have HA6 : Hid (Aft w w6 L S K L S6 K) := HA5.out.trans (Aft.of_store ho6 hd6 hg6)
      clear hd6 hg6 hs6 ho6 c3
      go_wp2_with (fail)
      (with_reducible refine (ffail_any HK6.out).mono ?_)
      rintro e w7 ⟨rfl, hK, hX⟩
      have HK7 := Lib.hid hK
      have HA7 : Hid (Aft w w7 L S K L S6 K) := HA6.out.trans (.bank hX)
      clear hK hX
      go_wp2
      go_ret2
      rw [HBB.out]
      exact ⟨rfl, .mk' HA7.out HK7.out⟩
end
end Go.Proofs.Ytjdknddnanopaaa

/-
  Firmware: Abort, Running, Trial, begin, Confirm of a bank; calls on a bank that is not there.
-/
namespace Go.Proofs.Ytjdknddnanopaaa
open Go.RowKit
set_option linter.unusedVariables false
set_option linter.unusedSimpArgs false

section
variable {w0 w w1 w' : World} {L L' : Lc} {S S' : Sc} {K K' : Kc} {f f' : Fl} {b b' : Bk}

/-- The slot that runs, and its version. -/
def runB (b : Bk) : Int × Int := if b.slot = 2 then (2, 0) else ((b.slot : Int), savB b (3 + 3 * b.slot))
theorem frunning_any (h : BkAt w0 w L S K f b) (ho : BkOk f b) : Calls Try.prog 32 #[.pointer (some ⟨K.D, 0, none⟩)] w fun e w' => e = .returned (.tuple #[.int .i64 (runB b).1, .int .i64 (runB b).2]) ∧ Below w.heap.size w w' := by
  have e1 := eqb_some K.D
  have c5 := h.row 5 _ rfl
  have HK := Lib.hid h
  by_cases hs : b.slot = 2
  · have HR : Hid (runB b = (2, 0)) := by unfold runB; rw [Hid, if_pos hs]
    rw [hs] at c5
    clear h ho hs
    go_enter Try.func32, Try.ntmps32
    go_wp2
    go_ret2
    rw [HR.out]
    exact ⟨rfl, Below.refl _ _⟩
  · have HR : Hid (runB b = ((b.slot : Int), savB b (3 + 3 * b.slot))) := by unfold runB; rw [Hid, if_neg hs]
    have hs2 := ho.slot
    have hs3 : b.slot ≤ 1 := by omega
    obtain ⟨s, hss⟩ : ∃ s, b.slot = s := ⟨_, rfl⟩
    have H9 := Lib.hid ho.sp9
    have HO := Lib.hid ho
    rw [hss] at c5 hs3 HR
    have hs4 : ¬ (s : Int) = 2 := by omega
    have hs5 : ((s : Int) == 2) = false := by simpa using hs4
    have q1 : IntKind.i64.wrap (3 * (s : Int)) = 3 * (s : Int) := IntWalk.i64_in _ (by omega)
    have q2 : IntKind.i64.wrap (3 + 3 * (s : Int)) = 3 + 3 * (s : Int) := IntWalk.i64_in _ (by omega)
    have HKS : Hid (∀ W, Below w.heap.size w W → W.cell? ⟨K.D, 5, none⟩ = some (.int .i64 s)) := fun W hB => by have := (HK.out.later hB).row 5 _ rfl; rw [hss] at this; exact this
    have HS : Hid (∀ W, Below w.heap.size w W → Calls Try.prog 57 #[.pointer (some ⟨K.D, 0, none⟩), .int .i64 (3 + 3 * (s : Int))] W fun e w' => e = .returned (.int .i64 (savB b (3 + 3 * s))) ∧ Below w.heap.size w w') := fun W hB => by
      refine (fsaved_any (HK.out.later hB) HO.out.ok (3 + 3 * (s : Int)) (3 + 3 * s) (by push_cast; rfl) (by rw [H9.out]; omega)).mono ?_
      rintro e w' ⟨he, hb⟩
      exact ⟨he, hB.trans (hb.mono hB.size)⟩
    clear h ho hs hss hs2
    go_enter Try.func32, Try.ntmps32
    go_wp2_with (fail)
    go_region_held3 (fun w' => w'.cell? ⟨K.D, 5, none⟩ = some (.int .i64 s)) (first | go_keep | exact HKS.out _ hB9) (first
      | (go_at_call 57; refine (HS.out _ (by repeat (first | exact Below.refl _ _ | refine Below.drew ?_ | refine Below.drewN ?_ _))).mono ?_; rintro e wp ⟨rfl, hB9⟩))
    all_goals
      go_wp2
      go_ret2
      rw [HR.out]
      exact ⟨rfl, hB9⟩

end
end Go.Proofs.Ytjdknddnanopaaa

/-
  Firmware: the bytes of a slot, read.
-/
namespace Go.Proofs.Ytjdknddnanopaaa
open Go.RowKit
set_option linter.unusedVariables false
set_option linter.unusedSimpArgs false

theorem take_step (l : List Int) (a j : Nat) : (l.drop (64 * a)).take (64 * (j + 1)) = (l.drop (64 * a)).take (64 * j) ++ (l.drop (64 * (a + j))).take 64 := by
  rw [show 64 * (j + 1) = 64 * j + 64 by omega, List.take_add, List.drop_drop, show 64 * a + 64 * j = 64 * (a + j) by omega]

section
variable {w0 w w1 w' : World} {L L' : Lc} {S S' : Sc} {K K' : Kc} {f f' : Fl} {b b' : Bk} {s : St}
theorem slot_room (ho : BkOk f b) (hw : f.wear.length ≤ 64) (hp : f.pg ≤ 16) {s : Nat} (hs : s ≤ 1) : blkB b s * f.pg + b.k * f.pg ≤ f.wear.length * f.pg ∧ sizeF f b.blocks = b.k * f.pg * 64 := by
  constructor
  · rw [← Nat.add_mul]
    refine Nat.mul_le_mul_right _ ?_
    unfold blkB
    have h1 := ho.fw
    have h2 := ho.bk
    have h3 := Nat.mul_le_mul_right b.k hs
    omega
  · unfold sizeF Bk.k
    rfl

set_option maxRecDepth 100000 in
set_option maxHeartbeats 2000000 in
theorem fread_any (h : BkAt w0 w L S K f b) (ho : BkOk f b) (hd : f.down = false) (s n : Nat) (hs : s ≤ 1) (hn : 1 ≤ n) (hn2 : n ≤ sizeF f b.blocks) (X : Nat → Prop) (hX : ∀ g, X g → g < w.heap.size) :
    Calls Try.prog 80 #[.pointer (some ⟨K.D, 0, none⟩), .int .i64 s, .int .i64 n] w fun e w' => ∃ A c, e = .returned (.tuple #[.slice A n c, .nilIface]) ∧ n ≤ c ∧ c ≤ maxLen ∧ RdX X w' A (kcells .u8 (imgB f b s n)) ∧ (imgB f b s n).length = n ∧ Below w.heap.size w w' := by
  have g1 := ne_nil
  obtain ⟨i5, hi5, hz50, hz51, hz52⟩ := info_parts info5
  have hwl := h.st.fl.ok.b2
  have hpg := h.st.fl.ok.p2
  obtain ⟨hr1, hr2⟩ := slot_room ho hwl hpg hs
  have h1024 : f.wear.length * f.pg ≤ 1024 := pages_1024 h.st.fl.ok
  obtain ⟨B1, hB1⟩ : ∃ B1, blkB b s = B1 := ⟨_, rfl⟩
  obtain ⟨P, hP⟩ : ∃ P, f.pg = P := ⟨_, rfl⟩
  obtain ⟨Q, hQ⟩ : ∃ Q, B1 * P = Q := ⟨_, rfl⟩
  have hQi : (B1 : Int) * (P : Int) = (Q : Int) := by rw [← hQ]; push_cast; rfl
  have hB82 : B1 ≤ 82 := by
    rw [← hB1]; unfold blkB
    have := Nat.mul_le_mul hs ho.k8
    have := ho.fw
    omega
  have hfi : b.first ≤ 64 := by have := ho.fw; omega
  have HFI : Hid (b.first ≤ 64) := hfi
  have HBL : Hid (b.blocks = 2 * b.k + 2 ∧ b.k ≤ 8) := ⟨ho.bk, ho.k8⟩
  obtain ⟨J, hJ⟩ : ∃ J, (n + 63) / 64 = J := ⟨_, rfl⟩
  have hJ1 : n ≤ 64 * J ∧ 64 * J < n + 64 := by omega
  have hJr : Q + J ≤ 1024 := by
    rw [hB1, hP, hQ] at hr1
    rw [hP] at hr2 h1024
    generalize b.k * P = kp at hr1 hr2
    omega
  have hJw : Q + J ≤ f.wear.length * f.pg := by
    rw [hB1, hP, hQ] at hr1
    rw [hP] at hr2
    rw [hP]
    generalize b.k * P = kp at hr1 hr2
    omega
  have hlen : f.img.length = f.wear.length * f.pg * 64 := h.st.fl.ok.len
  have HRP : Hid (∀ j, j < J → readF f ((Q + j : Nat) : Int) = (pageF f (Q + j), 0) ∧ (pageF f (Q + j)).length = 64) := fun j hj =>
    ⟨readF_in hd (by omega), pageF_len h.st.fl.ok (by omega)⟩
  have HIM : Hid (imgB f b s n = ((f.img.drop (64 * Q)).take (64 * J)).take n) := by
    unfold imgB
    rw [Hid, hB1, hP, hQ, List.take_take, Nat.min_eq_left (by omega)]
  have HIL : Hid ((imgB f b s n).length = n) := by
    unfold imgB
    rw [Hid, hB1, hP, hQ, List.length_take, List.length_drop, hlen]
    omega
  have HJL : Hid (((f.img.drop (64 * Q)).take (64 * J)).length = 64 * J) := by
    rw [Hid, List.length_take, List.length_drop, hlen]
    omega
  have HK := Lib.hid h
  have HKS : Hid (∀ W, Below w.heap.size w W → W.cell? ⟨K.D, 0, none⟩ = some (.pointer (some ⟨L.d, 0, none⟩))) := fun W hB => (HK.out.later hB).row 0 _ rfl
  have HBC : Hid (∀ W, Below w.heap.size w W → Calls Try.prog 83 #[.pointer (some ⟨K.D, 0, none⟩), .int .i64 s] W fun e w' => e = .returned (.int .i64 B1) ∧ ∃ q, w' = W.drewN q) := fun W hB => by
    have := fblock_any (HK.out.later hB) HBL.out.1 HBL.out.2 HFI.out (s : Int) s rfl (by omega)
    rw [hB1] at this
    exact this
  have HPC : Hid (∀ W, Below w.heap.size w W → Calls Try.prog 64 #[.pointer (some ⟨L.d, 0, none⟩)] W fun e w' => e = .returned (.int .i64 P) ∧ w' = W) := fun W hB => by
    have := pages_any (HK.out.later hB).st.fl
    rw [hP] at this
    exact this.mono (fun e w' hh => ⟨hh.1, hh.2.symm⟩)
  have HRC : Hid (∀ j, j < J → ∀ W, Below w.heap.size w W → Calls Try.prog 115 #[.pointer (some ⟨L.d, 0, none⟩), .int .i64 ((Q : Int) + (j : Int))] W fun e w' => ∃ A' c', e = .returned (.tuple #[.slice A' 64 c', .nilIface]) ∧ Rd w' w'.heap.size A' (kcells .u8 (pageF f (Q + j))) ∧ Below W.heap.size W w') := fun j hj W hB => by
    have := read_any (HK.out.later hB).st.fl ((Q + j : Nat) : Int)
    obtain ⟨e1, e2⟩ := HRP.out j hj
    rw [e1, errV_zero] at this
    simp only at this
    rw [e2] at this
    rw [show (Q : Int) + (j : Int) = ((Q + j : Nat) : Int) by push_cast; rfl]
    refine this.mono ?_
    rintro e w' ⟨v', he, ho, hb⟩
    obtain ⟨A', c', rfl, _, _, hr⟩ := own_read ho
    exact ⟨A', c', he, hr, hb⟩
  have HX := Lib.hid hX
  clear h ho hd hwl hpg hr1 hr2 h1024 hB1 hP hQ hfi hJ hJw hlen hX hn2
  obtain ⟨hJ2, hJ3⟩ := hJ1
  go_enter Try.func80, Try.ntmps80
  go_wp2_with (fail)
  go_loopw [8, 9] (fun v i wr => ∃ j : Nat, j ≤ J ∧ i = .int .i64 j ∧ wr.ownsRow w.heap.size 5 1 v (64 * j) (kcells .u8 ((f.img.drop (64 * Q)).take (64 * j))) ∧ Below w.heap.size w wr) (fun _ i _ => J - (intOf i).toNat)
  case atStart => exact ⟨0, Nat.zero_le _, rfl, World.ownsRow_nil .., Below.refl _ _⟩
  case round =>
    obtain ⟨j, hj, rfl, hO, hB⟩ := hrel
    obtain ⟨A1, c1, rfl, h1, h2, -⟩ := own_form hO
    have HO := Lib.hid hO
    have HB := Lib.hid hB
    have c0 := HKS.out _ hB
    clear hO hB
    by_cases hlt : j < J
    · have HRJ := Lib.hid (HRC.out j hlt)
      have HKS2 : Hid (∀ W, Below wr.heap.size wr W → W.cell? ⟨K.D, 0, none⟩ = some (.pointer (some ⟨L.d, 0, none⟩))) := fun W hb => HKS.out _ (HB.out.trans (hb.mono HB.out.size))
      have HBC2 : Hid (∀ W, Below wr.heap.size wr W → Calls Try.prog 83 #[.pointer (some ⟨K.D, 0, none⟩), .int .i64 s] W fun e w' => e = .returned (.int .i64 B1) ∧ ∃ q, w' = W.drewN q) := fun W hb => HBC.out _ (HB.out.trans (hb.mono HB.out.size))
      have HPC2 : Hid (∀ W, Below wr.heap.size wr W → Calls Try.prog 64 #[.pointer (some ⟨L.d, 0, none⟩)] W fun e w' => e = .returned (.int .i64 P) ∧ w' = W) := fun W hb => HPC.out _ (HB.out.trans (hb.mono HB.out.size))
      have HRJ2 : Hid (∀ q, Calls Try.prog 115 #[.pointer (some ⟨L.d, 0, none⟩), .int .i64 ((Q : Int) + (j : Int))] (wr.drewN q) fun e w' => ∃ A' c', e = .returned (.tuple #[.slice A' 64 c', .nilIface]) ∧ Rd w' w'.heap.size A' (kcells .u8 (pageF f (Q + j))) ∧ Below wr.heap.size wr w') := fun q => by
        have hb := Below.drewN (Below.refl wr.heap.size wr) q
        refine (HRJ.out _ (HB.out.trans (hb.mono HB.out.size))).mono ?_
        rintro e w' ⟨A', c', he, hr, hb2⟩
        exact ⟨A', c', he, hr, hb.trans (hb2.mono hb.size)⟩
      have q1 : IntKind.i64.wrap (Q : Int) = (Q : Int) := IntWalk.i64_in _ (by omega)
      have q2 : IntKind.i64.wrap ((Q : Int) + (j : Int)) = (Q : Int) + (j : Int) := IntWalk.i64_in _ (by omega)
      go_wp2_with (fail)
      go_region_held3 (fun w9 => w9.cell? ⟨K.D, 0, none⟩ = some (.pointer (some ⟨L.d, 0, none⟩))) (first | exact HKS2.out _ (Below.drewN (Below.refl _ _) _) | exact HKS2.out _ (Below.drew (Below.refl _ _)) | exact HKS2.out _ hB9 | go_keep) (first
        | (go_at_call 83; refine (HBC2.out _ (by first | exact Below.refl _ _ | exact Below.drewN (Below.refl _ _) _ | exact Below.drew (Below.refl _ _))).mono ?_; rintro e wp ⟨rfl, qb, rfl⟩)
        | (go_at_call 64; refine (HPC2.out _ (by first | exact Below.refl _ _ | exact Below.drewN (Below.refl _ _) _ | exact Below.drew (Below.refl _ _))).mono ?_; rintro e wp ⟨rfl, rfl⟩)
        | (go_at_call 115; refine (HRJ2.out _).mono ?_; rintro e wb ⟨A2, c2, rfl, hr9, hB9⟩))
      all_goals
        have HO2 : Hid (wb.ownsRow w.heap.size 5 1 (.slice A1 (64 * j) c1) (64 * j) (kcells .u8 ((f.img.drop (64 * Q)).take (64 * j)))) := own_below HO.out hB9
        have HB2 : Hid (Below w.heap.size w wb) := HB.out.trans (hB9.mono HB.out.size)
        have HR9 := Lib.hid hr9
        have HL9 : Hid ((kcells .u8 (pageF f (Q + j))).length = 64 * 1) := by rw [Hid, kcells_length]; exact (HRP.out j hlt).2
        have HBS : Hid (w.heap.size ≤ wb.heap.size) := HB2.out.size
        have HST : Hid ((f.img.drop (64 * Q)).take (64 * (j + 1)) = (f.img.drop (64 * Q)).take (64 * j) ++ pageF f (Q + j)) := take_step f.img Q j
        clear hB9 hr9 c0
        go_wp2_with (at_builtin; refine wpList_append_rd _ rfl _ _ 22 rfl w.heap.size 5 i5 (.int .u8 0) 1 1 Try.underlying22 hi5 hz50 hz51 hz52 rfl (by omega) _ (64 * j) (kcells .u8 ((f.img.drop (64 * Q)).take (64 * j))) rfl HO2.out wb.heap.size A2 64 c2 (kcells .u8 (pageF f (Q + j))) rfl HR9.out HL9.out (kcells_one _ _) (by unfold maxLen; omega) (by omega) HBS.out ?_)
        intro v' w2 hown hgrow hat
        have HB3 : Hid (Below w.heap.size w w2) := HB2.out.grown hgrow HBS.out (fun k hk => (HO2.out.lt k hk).1)
        rw [← kcells_append, ← HST.out, show 64 * j + 64 = 64 * (j + 1) by omega] at hown
        obtain ⟨A3, c3, rfl, h4, h5, -⟩ := own_form hown
        have HO3 := Lib.hid hown
        clear hown hgrow hat
        go_wp2
        go_roundw
        case rel => exact ⟨j + 1, by omega, by go_num, HO3.out, HB3.out⟩
        case measure => simp [intOf]; omega
    · have hjJ : j = J := by omega
      subst hjJ
      obtain ⟨A2, c2, e2, -, -, hg2⟩ := own_form HO.out
      injection e2 with e21 e22 e23
      obtain ⟨g2, e3, -⟩ := hg2 (by omega)
      rw [e3] at e21
      subst e21
      have HF : Hid (RdX X wr (some ⟨g2, 0, none⟩) (kcells .u8 (imgB f b s n))) := by
        rw [Hid, HIM.out]
        refine (rdx_own (by rw [kcells_length]; exact HJL.out) HO.out HX.out).part ?_
        unfold kcells
        rw [List.map_take]
        exact List.take_prefix _ _
      have hnc : n ≤ c1 := by omega
      have HH2 := Lib.hid h2
      have HNC := Lib.hid hnc
      unfold maxLen at h2
      clear e22 e23 hg2 e3 c0
      go_wp2
      go_ret2
      exact ⟨_, c1, rfl, HNC.out, HH2.out, HF.out, HIL.out, HB.out⟩
end
end Go.Proofs.Ytjdknddnanopaaa

/-
  Firmware: Image of a bank.
-/
namespace Go.Proofs.Ytjdknddnanopaaa
open Go.RowKit
set_option linter.unusedVariables false
set_option linter.unusedSimpArgs false

theorem BkOk.vals {f : Fl} {b : Bk} (ho : BkOk f b) {s : Nat} (hs : s ≤ 1) : ∃ v l c : Nat, savB b (3 + 3 * s) = v ∧ savB b (4 + 3 * s) = l ∧ savB b (5 + 3 * s) = c ∧ v ≤ 1073741824 ∧ l ≤ sizeF f b.blocks ∧ c < 4294967296 := by
  obtain ⟨va, vt, vk, v0, l0, c0, v1, l1, c1, hv, b1, b2, b3, b4, b5, b6, b7, b8, b9⟩ := ho.vec
  match s, hs with
  | 0, _ => exact ⟨v0, l0, c0, by unfold savB; rw [hv]; rfl, by unfold savB; rw [hv]; rfl, by unfold savB; rw [hv]; rfl, b4, b5, b6⟩
  | 1, _ => exact ⟨v1, l1, c1, by unfold savB; rw [hv]; rfl, by unfold savB; rw [hv]; rfl, by unfold savB; rw [hv]; rfl, b7, b8, b9⟩

section
variable {w0 w w1 w' : World} {L L' : Lc} {S S' : Sc} {K K' : Kc} {f f' : Fl} {b b' : Bk} {s : St}
def ImgR (w0 w : World) (L : Lc) (S : Sc) (K : Kc) (f : Fl) (q : Bk × List Int × Int) (e : Ending) (w' : World) : Prop :=
  ∃ A n c, e = .returned (.tuple #[.slice A n c, errV q.2.2]) ∧ q.2.1.length = n ∧ n ≤ c ∧ c ≤ maxLen ∧ (∀ X : Nat → Prop, (∀ g, X g → g < w.heap.size) → RdX X w' A (kcells .u8 q.2.1)) ∧ BkTo w0 w L S K f q.1 w'
theorem ImgR.no {q : Bk × List Int × Int} {c : Int} {b1 : Bk} (hq : q = (b1, [], c)) (hc : c ≠ 0) (hb : BkTo w0 w L S K f b1 w') : ImgR w0 w L S K f q (.returned (.tuple #[.slice none 0 0, .iface 77 (.int .i64 c)])) w' := by
  subst hq
  exact ⟨none, 0, 0, by rw [errV_ne hc], rfl, Nat.le_refl _, Nat.zero_le _, fun X hX => RdX.nil, hb⟩

set_option maxRecDepth 100000 in
set_option maxHeartbeats 4000000 in
theorem fimage_any (h : BkAt w0 w L S K f b) (ho : BkOk f b) (si : Int) : Calls Try.prog 28 #[.pointer (some ⟨K.D, 0, none⟩), .int .i64 si] w (ImgR w0 w L S K f (imageB b f si)) := by
  have g1 := ne_nil
  have g2 := ne_err
  have HR := Lib.hid (fready_any h)
  have HO := Lib.hid (rdy_ok ho)
  have h9 := ho.sp9
  by_cases hbr : (rdyB b f).broken = true
  · have HB : Hid (imageB b f si = (rdyB b f, [], 20)) := by unfold imageB; rw [Hid, if_pos hbr]
    rw [if_pos hbr, errV_ne (by decide)] at HR
    clear h ho hbr h9
    go_enter Try.func28, Try.ntmps28
    go_wp2_with (fail)
    (with_reducible refine HR.out.mono ?_)
    rintro e w1 ⟨rfl, hK, hX⟩
    have HK := Lib.hid hK
    have HX := Lib.hid hX
    clear hK hX
    go_wp2
    go_ret2
    exact .no HB.out (by decide) (.mk' (.bank HX.out) HK.out)
  have hbf : (rdyB b f).broken = false := by simpa using hbr
  rw [if_neg hbr, errV_zero] at HR
  have HU := Lib.hid (rdy_up hbf)
  have HW := Lib.hid (within62 si 0 1)
  by_cases hsi : 0 ≤ si ∧ si ≤ 1
  case neg =>
    have HB : Hid (imageB b f si = (rdyB b f, [], 10)) := by unfold imageB; rw [Hid, if_neg hbr, if_pos hsi]
    rw [decide_eq_false hsi] at HW
    clear h ho hbr h9 hbf hsi
    go_enter Try.func28, Try.ntmps28
    go_wp2_with (fail)
    (with_reducible refine HR.out.mono ?_)
    rintro e w1 ⟨rfl, hK, hX⟩
    have HK := Lib.hid hK
    have HX := Lib.hid hX
    clear hK hX
    go_wp2_with (fail)
    (with_reducible refine (HW.out _).mono ?_)
    rintro e w2 ⟨rfl, rfl⟩
    go_wp2
    go_ret2
    exact .no HB.out (by decide) (.mk' (.bank HX.out) HK.out)
  rw [decide_eq_true hsi] at HW
  obtain ⟨s, hss⟩ : ∃ s : Nat, si = s := ⟨si.toNat, by omega⟩
  subst hss
  have hs1 : s ≤ 1 := by omega
  obtain ⟨vv, l, cc, hv1, hv2, hv3, hb1, hb2, hb3⟩ := ho.vals hs1
  have HV2 : Hid (savB (rdyB b f) (4 + 3 * s) = (l : Int)) := hv2
  have HV3 : Hid (savB (rdyB b f) (5 + 3 * s) = (cc : Int)) := hv3
  have HS9 : Hid ((rdyB b f).st.spec.length = 9) := h9
  have SV : Hid (∀ w1 : World, BkAt w0 w1 L S K f (rdyB b f) → Calls Try.prog 57 #[.pointer (some ⟨K.D, 0, none⟩), .int .i64 (4 + 3 * (s : Int))] w1 fun e w' => e = .returned (.int .i64 l) ∧ Below w1.heap.size w1 w') := fun w1 hK => by
    have := fsaved_any hK HO.out.ok (4 + 3 * (s : Int)) (4 + 3 * s) (by push_cast; rfl) (by rw [HS9.out]; omega)
    rw [HV2.out] at this
    exact this
  have SV5 : Hid (∀ w1 : World, BkAt w0 w1 L S K f (rdyB b f) → Calls Try.prog 57 #[.pointer (some ⟨K.D, 0, none⟩), .int .i64 (5 + 3 * (s : Int))] w1 fun e w' => e = .returned (.int .i64 cc) ∧ Below w1.heap.size w1 w') := fun w1 hK => by
    have := fsaved_any hK HO.out.ok (5 + 3 * (s : Int)) (5 + 3 * s) (by push_cast; rfl) (by rw [HS9.out]; omega)
    rw [HV3.out] at this
    exact this
  by_cases hl : l = 0
  · have HB : Hid (imageB b f (s : Int) = (rdyB b f, [], 12)) := by unfold imageB; rw [Hid, if_neg hbr, if_neg (by simpa using hsi), if_pos (.inl (by rw [Int.toNat_natCast, hv2, hl]; rfl))]
    subst hl
    clear h ho hbr h9 hbf hsi hv1 hv2 hv3
    go_enter Try.func28, Try.ntmps28
    go_wp2_with (fail)
    (with_reducible refine HR.out.mono ?_)
    rintro e w1 ⟨rfl, hK, hX⟩
    have HK := Lib.hid hK
    have HX := Lib.hid hX
    clear hK hX
    go_wp2_with (fail)
    (with_reducible refine (HW.out _).mono ?_)
    rintro e w2 ⟨rfl, rfl⟩
    go_wp2_with (fail)
    (with_reducible refine (SV.out _ HK.out).mono ?_)
    rintro e w3 ⟨rfl, hB⟩
    have HB3 := Lib.hid hB
    clear hB
    go_wp2
    go_ret2
    exact .no HB.out (by decide) (.mk' ((Aft.bank HX.out).trans (Aft.of_below HB3.out)) (HK.out.later HB3.out))
  have hl1 : ¬ (l : Int) = 0 := by omega
  have hl2 : ((l : Int) == 0) = false := by simpa using hl1
  by_cases hud : b.upload = true ∧ b.dst = s
  · have HB : Hid (imageB b f (s : Int) = (rdyB b f, [], 12)) := by unfold imageB; rw [Hid, if_neg hbr, if_neg (by simpa using hsi), if_pos (.inr ⟨hud.1, by rw [hud.2]⟩)]
    obtain ⟨hu, hdd⟩ := hud
    clear h ho hbr h9 hbf hsi hv1 hv2 hv3
    go_enter Try.func28, Try.ntmps28
    go_wp2_with (fail)
    (with_reducible refine HR.out.mono ?_)
    rintro e w1 ⟨rfl, hK, hX⟩
    have HK := Lib.hid hK
    have HX := Lib.hid hX
    clear hK hX
    go_wp2_with (fail)
    (with_reducible refine (HW.out _).mono ?_)
    rintro e w2 ⟨rfl, rfl⟩
    go_wp2_with (fail)
    (with_reducible refine (SV.out _ HK.out).mono ?_)
    rintro e w3 ⟨rfl, hB⟩
    have HB3 := Lib.hid hB
    have c6 : w3.cell? ⟨K.D, 6, none⟩ = some (.bool b.upload) := (HK.out.later hB).row 6 _ rfl
    have c7 : w3.cell? ⟨K.D, 7, none⟩ = some (.int .i64 b.dst) := (HK.out.later hB).row 7 _ rfl
    rw [hu] at c6
    rw [hdd] at c7
    clear hB
    go_wp2
    go_ret2
    exact .no HB.out (by decide) (.mk' ((Aft.bank HX.out).trans (Aft.of_below HB3.out)) (HK.out.later HB3.out))
  have hcase : b.upload = false ∨ (b.upload = true ∧ ¬ (b.dst : Int) = (s : Int) ∧ ((b.dst : Int) == (s : Int)) = false) := by
    by_cases hu : b.upload = true
    · refine .inr ⟨hu, ?_, ?_⟩
      · intro e; exact hud ⟨hu, by omega⟩
      · have : ¬ (b.dst : Int) = (s : Int) := fun e => hud ⟨hu, by omega⟩
        simpa using this
    · exact .inl (by simpa using hu)
  obtain ⟨img, himg⟩ : ∃ img, imgB f b s l = img := ⟨_, rfl⟩
  obtain ⟨C, hC⟩ : ∃ C, sumZ img = C := ⟨_, rfl⟩
  have hCr : 0 ≤ C ∧ C < 4294967296 := by rw [← hC]; exact sumZ_u32 img
  have HBI : Hid (imageB b f (s : Int) = if C ≠ (cc : Int) then (rdyB b f, [], 19) else (rdyB b f, img, 0)) := by
    unfold imageB
    rw [Hid, if_neg hbr, if_neg (by simpa using hsi), if_neg (by
      rintro (e | e)
      · rw [Int.toNat_natCast, hv2] at e; exact hl1 e
      · exact hud ⟨e.1, by omega⟩), Int.toNat_natCast, hv2, Int.toNat_natCast, himg, hC, hv3]
  have HRD : Hid (∀ w3 : World, BkAt w0 w3 L S K f (rdyB b f) → ∀ X : Nat → Prop, (∀ g, X g → g < w3.heap.size) → Calls Try.prog 80 #[.pointer (some ⟨K.D, 0, none⟩), .int .i64 s, .int .i64 l] w3 fun e w' => ∃ A c, e = .returned (.tuple #[.slice A l c, .nilIface]) ∧ l ≤ c ∧ c ≤ maxLen ∧ RdX X w' A (kcells .u8 img) ∧ img.length = l ∧ Below w3.heap.size w3 w') := fun w3 hK X hX => by
    have := fread_any hK HO.out HU.out.2 s l hs1 (by omega) hb2 X hX
    rw [show imgB f (rdyB b f) s l = img from himg] at this
    exact this
  have HBY : Hid (Bytes img) := by rw [← himg]; unfold imgB; exact bytes_take (bytes_drop h.st.fl.ok.byt _) _
  have HCC := Lib.hid hC
  have hl8 : l ≤ 8192 := Nat.le_trans hb2 (by rw [ho.bk]; exact sizeF_le h.st.fl.ok ho.k8)
  have q3 : IntKind.i64.wrap C = C := IntWalk.i64_in _ (by omega)
  obtain ⟨hC0, hC1⟩ := hCr
  clear h ho hbr h9 hbf hsi hv1 hv2 hv3 himg hC hud
  have hN : (fun g => g < w.heap.size) = (fun g => g < w.heap.size) := rfl
  by_cases hcs : C = (cc : Int)
  all_goals
    rcases hcase with hu | ⟨hu, hd1, hd2⟩
    all_goals
      first
        | (have HB : Hid (imageB b f (s : Int) = (rdyB b f, img, 0)) := by rw [Hid, HBI.out, if_neg (by simpa using hcs)])
        | (have HB : Hid (imageB b f (s : Int) = (rdyB b f, [], 19)) := by rw [Hid, HBI.out, if_pos hcs]
           have hcs2 : (C == (cc : Int)) = false := by simpa using hcs)
      go_enter Try.func28, Try.ntmps28
      go_wp2_with (fail)
      (with_reducible refine HR.out.mono ?_)
      rintro e w1 ⟨rfl, hK, hX⟩
      have HK := Lib.hid hK
      have HX := Lib.hid hX
      clear hK hX
      go_wp2_with (fail)
      (with_reducible refine (HW.out _).mono ?_)
      rintro e w2 ⟨rfl, rfl⟩
      go_wp2_with (fail)
      (with_reducible refine (SV.out _ HK.out).mono ?_)
      rintro e w3 ⟨rfl, hB⟩
      have HK3 := Lib.hid (HK.out.later hB)
      have HA3 : Hid (Aft w w3 L S K L S K) := (Aft.bank HX.out).trans (Aft.of_below hB)
      have c6 : w3.cell? ⟨K.D, 6, none⟩ = some (.bool b.upload) := HK3.out.row 6 _ rfl
      have c7 : w3.cell? ⟨K.D, 7, none⟩ = some (.int .i64 b.dst) := HK3.out.row 7 _ rfl
      rw [hu] at c6
      have HSX : Hid (w.heap.size ≤ w3.heap.size) := Nat.le_trans HX.out.size hB.size
      clear hB
      go_wp2_with (fail)
      (with_reducible refine (HRD.out _ HK3.out (fun g => g < w3.heap.size) (fun g hg => hg)).mono ?_)
      rintro e w4 ⟨A4, c4, rfl, hc1, hc2, hr, hll, hB⟩
      have HK4 := Lib.hid (HK3.out.later hB)
      have HA4 : Hid (Aft w w4 L S K L S K) := HA3.out.trans (Aft.of_below hB)
      have HR4 := Lib.hid hr
      have HL4 := Lib.hid hll
      have HC12 : Hid (l ≤ c4 ∧ c4 ≤ maxLen) := ⟨hc1, hc2⟩
      clear hB hr hll hc1 hc2 c6 c7
      go_wp2_with (fail)
      (with_reducible refine (fsum_any A4 l c4 img w4 HR4.out.rd HL4.out HBY.out (by omega)).mono ?_)
      rintro e w5 ⟨rfl, q, rfl⟩
      rw [HCC.out]
      have HBQ : Hid (Below w4.heap.size w4 (w4.drewN q)) := Below.drewN (Below.refl w4.heap.size w4) q
      have HK5 := Lib.hid (HK4.out.later HBQ.out)
      have HA5 : Hid (Aft w (w4.drewN q) L S K L S K) := HA4.out.trans (Aft.of_below HBQ.out)
      have HR5 := Lib.hid (HR4.out.onlyX (OnlyX.of_below HBQ.out))
      obtain ⟨W5, hW5⟩ : ∃ W, w4.drewN q = W := ⟨_, rfl⟩
      rw [hW5] at HK5 HA5 HR5 ⊢
      clear hW5 HBQ
      go_wp2_with (fail)
      (with_reducible refine (SV5.out _ HK5.out).mono ?_)
      rintro e w6 ⟨rfl, hB⟩
      have HK6 := Lib.hid (HK5.out.later hB)
      have HA6 : Hid (Aft w w6 L S K L S K) := HA5.out.trans (Aft.of_below hB)
      have HR6 := Lib.hid (HR5.out.onlyX (OnlyX.of_below hB))
      clear hB
      go_wp2
      go_ret2
      first
        | exact .no HB.out (by decide) (.mk' HA6.out HK6.out)
        | (rw [HB.out]; exact ⟨A4, l, c4, rfl, HL4.out, HC12.out.1, HC12.out.2, fun X hX => HR6.out.newX (fun g _ hg => Nat.lt_of_lt_of_le (hX g hg) HSX.out), .mk' HA6.out HK6.out⟩)
end
end Go.Proofs.Ytjdknddnanopaaa

/-
  Firmware: awake of the statements of layer 52; the statement about sums.
-/
namespace Go.Proofs.Ytjdknddnanopaaa
open Go.RowKit
set_option linter.unusedVariables false
set_option linter.unusedSimpArgs false

theorem rdyB_up {f : Fl} {b : Bk} (h : b.broken = false) (hd : f.down = false) : rdyB b f = b := by
  unfold rdyB
  rw [h, hd]
  obtain ⟨_, _, _, _, _, _, _, _, _, _, _, _, _, _⟩ := b
  simp only at h
  subst h
  rfl
/-- Boot without a trial. -/
theorem boot_plain {f : Fl} {b : Bk} (h : b.broken = false) (hd : f.down = false) (hs : b.slot = 2) {a : Nat} (h0 : savB b 0 = a) (h1 : savB b 1 = 2) : bootB b f = ({ b with slot := a }, f, (a : Int), 0) := by
  unfold bootB
  rw [rdyB_up h hd, if_neg (by rw [h]; decide), if_neg (by rw [hs]; simp), h1, if_pos rfl, h0, Int.toNat_natCast]
/-- The image of a slot. -/
theorem image_plain {f : Fl} {b : Bk} (h : b.broken = false) (hd : f.down = false) {s n : Nat} {img : List Int} (hs : s ≤ 1) (hn : savB b (4 + 3 * s) = n) (hn1 : 1 ≤ n) (hu : b.upload = false ∨ b.dst ≠ s) (hi : imgB f b s n = img) (hc : savB b (5 + 3 * s) = sumZ img) : imageB b f (s : Int) = (b, img, 0) := by
  unfold imageB
  rw [rdyB_up h hd, if_neg (by rw [h]; decide), if_neg (by omega), Int.toNat_natCast, hn, if_neg (by
    rintro (e | e)
    · omega
    · rcases hu with hu | hu
      · rw [hu] at e; cases e.1
      · exact hu (by omega)), Int.toNat_natCast, hi, hc, if_neg (by simp)]

theorem fopen_yes {w0 w : World} {L : Lc} {f : Fl} (h : FlAt w0 w L f) (first blocks : Int) (hE : regE f first blocks = 0) (hz : fwOpenE f first blocks = 0) (hpE : RdX L.E w L.Ap (kcells .u8 f.picks)) :
    Calls Try.prog 15 #[.pointer (some ⟨L.d, 0, none⟩), .int .i64 first, .int .i64 blocks] w (FOpenR w0 w L f (fwOpenB f first blocks)) :=
  (open_go h first blocks hE hpE).mono (fun e w' hh => by rw [if_pos hz] at hh; exact hh)
theorem fopen_no2 {w0 w : World} {L : Lc} {f : Fl} (h : FlAt w0 w L f) (first blocks : Int) (hE : regE f first blocks = 0) (hz : fwOpenE f first blocks ≠ 0) (hpE : RdX L.E w L.Ap (kcells .u8 f.picks)) :
    Calls Try.prog 15 #[.pointer (some ⟨L.d, 0, none⟩), .int .i64 first, .int .i64 blocks] w fun e w' => e = .returned (.tuple #[.pointer none, errV (fwOpenE f first blocks)]) ∧ Below w.heap.size w w' :=
  (open_go h first blocks hE hpE).mono (fun e w' hh => by rw [if_neg hz] at hh; exact hh)
theorem cont_n (s n : Int) (N : Nat) (hN : (clipI n 0 2000).toNat = N) (w : World) : Calls Try.prog 25 #[.int .i64 s, .int .i64 n] w fun e w' => ∃ A, e = .returned (.slice A N N) ∧ w'.ownsRow w.heap.size 5 1 (.slice A N N) N (kcells .u8 (contB s N)) ∧ Below w.heap.size w w' :=
  (cont_any s n w).mono (fun e w' ⟨A, N', he, hn, ho, hb⟩ => by
    rw [hN] at hn
    subst hn
    exact ⟨A, he, ho, hb⟩)
theorem sum9 : sumZ [49, 50, 51, 52, 53, 54, 55, 56, 57] = 3421780262 := by decide +kernel

theorem bytes9 : Bytes [49, 50, 51, 52, 53, 54, 55, 56, 57] := by
  intro x hx
  simp only [List.mem_cons, List.not_mem_nil, or_false] at hx
  omega
theorem sum9_any (w8 : World) (C : Array Value) (hC : C.toList = kcells .u8 [49, 50, 51, 52, 53, 54, 55, 56, 57]) (fr : Nat × Nat) : Calls Try.prog 10 #[.slice (some ⟨w8.heap.size, 0, none⟩) 9 9] (w8.alloc (.cells C 5 fr)) fun e w' => e = .returned (.int .u32 3421780262) ∧ ∃ q, w' = (w8.alloc (.cells C 5 fr)).drewN q := by
  have hr : Rd (w8.alloc (.cells C 5 fr)) (w8.alloc (.cells C 5 fr)).heap.size (some ⟨w8.heap.size, 0, none⟩) (kcells .u8 [49, 50, 51, 52, 53, 54, 55, 56, 57]) := fun _ =>
    ⟨w8.heap.size, 0, rfl, by rw [World.size_alloc]; omega, fun j u hu => by
      rw [Nat.zero_add, Joins.cell_alloc_mark_at w8 C 5 fr w8.heap.size j rfl, ← Array.getElem?_toList, hC]
      exact hu⟩
  have := fsum_any (some ⟨w8.heap.size, 0, none⟩) 9 9 [49, 50, 51, 52, 53, 54, 55, 56, 57] (w8.alloc (.cells C 5 fr)) hr rfl bytes9 (by omega)
  rw [sum9] at this
  exact this

theorem sum9_lit (w8 : World) (fr : Nat × Nat) : Calls Try.prog 10 #[.slice (some ⟨w8.heap.size, 0, none⟩) 9 9] (w8.alloc (.cells #[.int .u8 49, .int .u8 50, .int .u8 51, .int .u8 52, .int .u8 53, .int .u8 54, .int .u8 55, .int .u8 56, .int .u8 57] 5 fr)) fun e w' => e = .returned (.int .u32 3421780262) ∧ ∃ q, w' = (w8.alloc (.cells #[.int .u8 49, .int .u8 50, .int .u8 51, .int .u8 52, .int .u8 53, .int .u8 54, .int .u8 55, .int .u8 56, .int .u8 57] 5 fr)).drewN q :=
  sum9_any w8 #[.int .u8 49, .int .u8 50, .int .u8 51, .int .u8 52, .int .u8 53, .int .u8 54, .int .u8 55, .int .u8 56, .int .u8 57] rfl fr
set_option maxRecDepth 100000 in
set_option maxHeartbeats 8000000 in
theorem awake52_any (w : World) : Calls Try.prog 9 #[] w fun e w' => e = .returned (.bool true) ∧ Below w.heap.size w w' := by
  have g1 := ne_nil
  have g3 := eq_nil
  obtain ⟨img, himg⟩ : ∃ img, contB 1 70 = img := ⟨_, rfl⟩
  have hil : img.length = 70 := by rw [← himg]; exact contB_length _ _
  have hib : Bytes img := by rw [← himg]; exact contB_bytes _ _
  have hup := new_up (b := 4) (p := 2) (by omega) (by omega) (by omega) (by omega)
  obtain ⟨hpl, -, hpk⟩ := planted (first := 0) (k := 1) hup (by omega) (by omega) (by show 0 + (2 * 1 + 2) ≤ (newF 4 2).wear.length; unfold newF; simp) (by show 2 ≤ 2; omega) hib (by rw [hil]; omega) (by rw [hil]; show 70 ≤ 1 * 2 * 64; omega) (v := 9) ⟨by omega, by omega⟩
  obtain ⟨G, hG⟩ : ∃ G, (fmtC (newF 4 2) 0 (2 * 1 + 2) 9 (sumZ img) img).2.1 = G := ⟨_, rfl⟩
  rw [hG] at hpl hpk
  obtain ⟨B, hB⟩ : ∃ B, fwOpenB G ((0 : Nat) : Int) ((2 * 1 + 2 : Nat) : Int) = B := ⟨_, rfl⟩
  rw [hB] at hpl
  have hsv : B.st.saved = [0, 2, 0, 9, (img.length : Int), sumZ img, 0, 0, 0] := hpl.fr.sv.1
  have hbr : B.broken = false := by rw [hpl.nb]; rfl
  have hsl : B.slot = 2 := by rw [hpl.nb]; rfl
  have hul : B.upload = false := by rw [hpl.nb]; rfl
  have HBT : Hid (bootB B G = ({ B with slot := 0 }, G, ((0 : Nat) : Int), 0)) := boot_plain hbr hpl.up.dn hsl (by unfold savB; rw [hsv]; rfl) (by unfold savB; rw [hsv]; rfl)
  have HIM : Hid (imageB { B with slot := 0 } G 0 = ({ B with slot := 0 }, img, 0)) :=
    image_plain (b := { B with slot := 0 }) hbr hpl.up.dn (s := 0) (by omega) (n := img.length) (by show savB B 4 = _; unfold savB; rw [hsv]; rfl) (by omega) (.inl hul) hpl.im (by show savB B 5 = _; unfold savB; rw [hsv]; rfl)
  have HRN : Hid (runB { B with slot := 0 } = (0, 9)) := by
    unfold runB
    rw [Hid, if_neg (by show ¬ (0 : Nat) = 2; omega)]
    show ((0 : Int), savB B 3) = _
    unfold savB; rw [hsv]; rfl
  have HOK : Hid (BkOk G B) := hpl.ok
  have HOK2 : Hid (BkOk G { B with slot := 0 }) := by
    have ho := hpl.ok
    exact ⟨ho.ok, ho.sp, ho.fi, ho.bl, ho.lg, ho.br, ho.bk, ho.k1, ho.k8, ho.fw, ho.pg, by show 0 ≤ 2; omega, ho.dst, ho.ver, ho.len, ho.fed, ho.er, ho.dt, ho.page⟩
  have HPL := Lib.hid hpl
  have HPK : Hid (G.picks = []) := hpk
  have HIL := Lib.hid hil
  have HIB := Lib.hid hib
  have HGG := Lib.hid hG
  have HBB := Lib.hid hB
  have HCT := Lib.hid (fun W => cont_n 1 70 70 (by decide) W)
  rw [himg] at HCT
  have HUP := Lib.hid hup
  have HW4 : Hid (0 + (2 * 1 + 2) ≤ (newF 4 2).wear.length) := by unfold newF; simp [Hid]
  have HP2 : Hid (2 ≤ (newF 4 2).pg) := by show 2 ≤ 2; omega
  have HSZ : Hid (70 ≤ sizeF (newF 4 2) (2 * 1 + 2)) := by show 70 ≤ 1 * 2 * 64; omega
  clear hpl hsv hbr hsl hul hil hib hG hB himg hup hpk
  go_enter Try.func9, Try.ntmps9
  go_wp2_with (fail)
  (with_reducible refine (new_okI 4 2 4 2 rfl rfl w (by omega) (by omega) (by omega) (by omega)).mono ?_)
  rintro e w1 ⟨L, rfl, hF⟩
  have HF := Lib.hid hF
  clear hF
  go_wp2_with (fail)
  (with_reducible refine (HCT.out w1).mono ?_)
  rintro e w2 ⟨A2, rfl, ho2, hb2⟩
  obtain ⟨A3, c3, e3, h31, h32, -⟩ := own_form ho2
  injection e3 with e31 e32 e33
  subst e31 e33
  have HAP : Hid (Apart L w2 A2 (kcells .u8 img)) := apart_own HF.out (by rw [kcells_length]; exact HIL.out) ho2
  have HF2 := Lib.hid (HF.out.later hb2)
  clear ho2 hb2 e32 h31 h32
  go_wp2_with (fail)
  (with_reducible refine (fmt_yes HF2.out HUP.out rfl 0 1 (by omega) (by omega) HW4.out HP2.out 9 ⟨by omega, by omega⟩ A2 70 70 img HAP.out HIL.out (by omega) (by unfold maxLen; omega) HIB.out (by omega) HSZ.out 0 4 rfl rfl).mono ?_)
  rintro e w3 ⟨rfl, hF3, hO3⟩
  rw [HGG.out] at hF3
  have HF3 := Lib.hid hF3
  have HB3 : Hid (Below w.heap.size w w3) := HF3.out.below
  clear hF3 hO3
  have HOP := Lib.hid (fopen_yes HF3.out 0 4 HPL.out.reg HPL.out.oe (by rw [show G.picks = [] from HPK.out]; exact RdX.nil))
  rw [show fwOpenB G 0 4 = B from HBB.out] at HOP
  unfold FOpenR at HOP
  go_wp2_with (fail)
  (with_reducible refine HOP.out.mono ?_)
  rintro e w4 ⟨S, K, rfl, hk, hb, hD, hG, hKD, hKv⟩
  have HK4 := Lib.hid hk
  have e2 := eqb_some K.D
  clear hk hb hD hG hKD hKv
  go_wp2_with (fail)
  (with_reducible refine (fboot_any HK4.out HOK.out).mono ?_)
  rintro e w5 ⟨rfl, hk⟩
  rw [HBT.out] at hk ⊢
  simp only [errV_zero]
  obtain ⟨L5, S5, K5, hA, hk⟩ := hk
  have HK5 := Lib.hid hk
  have HD5 : Hid (K5.D = K.D) := hA.d
  clear hA hk
  have HIM5 := Lib.hid (fimage_any HK5.out HOK2.out 0)
  rw [HD5.out, HIM.out] at HIM5
  unfold ImgR at HIM5
  go_wp2_with (fail)
  (with_reducible refine HIM5.out.mono ?_)
  rintro e w6 ⟨A6, n6, c6, rfl, hl6, hc61, hc62, hr6, hk⟩
  obtain ⟨L6, S6, K6, hA, hk⟩ := hk
  have HK6 := Lib.hid hk
  have HD6 : Hid (K6.D = K.D) := hA.d.trans HD5.out
  have HR6 := Lib.hid (hr6 (fun _ => False) (fun g hg => hg.elim)).rd
  have hl70 : n6 = 70 := by rw [← hl6]; exact HIL.out
  subst hl70
  have HRN6 := Lib.hid (frunning_any HK6.out HOK2.out)
  rw [HD6.out, HRN.out] at HRN6
  simp only [errV_zero]
  clear hA hk hr6 hl6 hc61 hc62
  go_wp2_with (fail)
  (with_reducible refine HRN6.out.mono ?_)
  rintro e w7 ⟨rfl, hb⟩
  have HB7 : Hid (Below w.heap.size w w7) := HK6.out.st.fl.below.trans (hb.mono HK6.out.st.fl.below.size)
  have HR7 := Lib.hid ((HR6.out.below hb (Nat.le_refl _)).more hb.size)
  clear hb
  have HST : Hid (∀ W, Below w7.heap.size w7 W → (convert 22 9 (.slice A6 70 c6)).run Try.prog W = .ok (.string (strOfNums img)) W) := fun W hb => str_of (HR7.out.below hb (Nat.le_refl _)) HIL.out
  have k0 := HST.out w7 (Below.refl _ _)
  have k1 := HST.out w7.drew (Below.drew (Below.refl _ _))
  have HCW : Hid (∀ W, Below w7.heap.size w7 W → Calls Try.prog 25 #[.int .i64 1, .int .i64 70] W fun e w' => ∃ A, e = .returned (.slice A 70 70) ∧ Rd w' w'.heap.size A (kcells .u8 img) ∧ Below w7.heap.size w7 w') := fun W hb => (HCT.out W).mono (fun e w' ⟨A, he, ho, hb2⟩ => ⟨A, he, own_rd ho, hb.trans (hb2.mono hb.size)⟩)
  go_wp2_with (fail)
  go_region_held (fun w' => (convert 22 9 (.slice A6 70 c6)).run Try.prog w' = .ok (.string (strOfNums img)) w') (first | exact k0 | exact k1 | exact HST.out _ hb8 | exact HST.out _ (hb8.alloc hb8.size _) | exact HST.out _ (Below.drewN (hb8.alloc hb8.size _) _)) (first
    | (go_at_call 25; with_reducible refine (HCW.out _ (Below.drew (Below.refl _ _))).mono ?_; rintro e w8 ⟨A8, rfl, hr8, hb8⟩; have t7 : (convert 22 9 (.slice A8 70 70)).run Try.prog w8 = .ok (.string (strOfNums img)) w8 := str_of hr8 HIL.out; have k3 := Joins.run_convert_bytes_const_at (P := Try.prog) w8 22 5 #[.int .u8 49, .int .u8 50, .int .u8 51, .int .u8 52, .int .u8 53, .int .u8 54, .int .u8 55, .int .u8 56, .int .u8 57] 9 9 w8.heap.size rfl Try.underlying22 Try.underlying5)
    | (go_at_call 10; with_reducible refine (sum9_lit _ _).mono ?_; rintro e w9 ⟨rfl, q9, rfl⟩))
  all_goals
    go_wp2
    go_ret
    exact ⟨rfl, HB7.out.trans ((Below.drewN (hb8.alloc hb8.size _) _).mono HB7.out.size)⟩
end Go.Proofs.Ytjdknddnanopaaa
