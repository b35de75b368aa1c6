/-
  Firmware: what every call keeps of a bank: the store can be opened again. No program in sight.
-/
import Derived.Test.YtjdknddnanopaaaG1
import Derived.Test.YtjdknddnanopaaaF15
namespace Go.Proofs.Ytjdknddnanopaaa
open Go.RowKit
set_option linter.unusedVariables false

theorem Live.near {f g : Fl} {s : St} (h : Live f s) (hs : Shape f g) (hok : g.ok) (hd : g.down = false) (hpg : ∀ x, s.first * f.pg ≤ x → x < (s.first + s.blocks) * f.pg → pageF g x = pageF f x) : Live g s := by
  have hin : ∀ b j i, b < s.blocks → j < slotsS s f → i < s.k → pageF g (pageS s f b j + i) = pageF f (pageS s f b j + i) := fun b j i hb hj hi => by
    obtain ⟨h1, h2⟩ := h.ok.in_region hb hj hi
    exact hpg _ h1 h2
  have hps : ∀ b j, pageS s g b j = pageS s f b j := hs.pageS s
  have hsl := hs.slots s
  refine ⟨hok, h.ok.shape hs, hd, h.br, fun x h1 h2 => ?_, ?_, h.q0, h.lgs, h.lgt, fun hb => ?_⟩
  · rw [hs.p] at h1 h2
    rw [hpg x h1 h2]
    exact h.trn x h1 h2
  · exact h.new.congr rfl rfl hs.p (fun b j hb hj => recS_congr rfl rfl hs.p (fun i hi => hin b j i hb hj hi))
  · have t := h.tgt hb
    refine ⟨t.pgs, t.vl, t.lg, t.ne, t.nx, t.er, fun he i hi => ?_⟩
    rw [hps, hin _ _ _ h.ok.tb h.ok.ts hi]
    exact t.pre he i hi

def upF (f : Fl) : Fl := { f with down := false }
theorem upF_of {f : Fl} (h : f.down = false) : upF f = f := by
  unfold upF
  obtain ⟨_, _, _, _, _, _⟩ := f
  simp only at h
  subst h
  rfl
theorem upF_ok {f : Fl} (h : f.ok) : (upF f).ok := ⟨h.p1, h.p2, h.b1, h.b2, h.len, h.byt, h.pby, h.fu1, h.fu2⟩
theorem upF_shape (f : Fl) : Shape f (upF f) := ⟨rfl, rfl⟩
theorem Live.nearUp {f g : Fl} {s : St} (h : Live f s) (hs : Shape f g) (hok : g.ok) (hpg : ∀ x, s.first * f.pg ≤ x → x < (s.first + s.blocks) * f.pg → pageF g x = pageF f x) : Live (upF g) s :=
  h.near (g := upF g) ⟨hs.p, hs.w⟩ (upF_ok hok) rfl hpg

/-- What an Open behind a Start may find: what is saved, or what is being written. -/
def Sto (f : Fl) (s : St) (o : Option (List Int)) : Prop := (Live (upF f) s ∧ o = if s.busy = true then some s.values else none) ∨ (Dead f s ∧ o = some s.values)
theorem Sto.live {f : Fl} {s : St} (h : Live f s) : Sto f s (if s.busy = true then some s.values else none) := .inl ⟨by rw [upF_of h.up]; exact h, rfl⟩
theorem Sto.fuse {f : Fl} {s : St} {o : Option (List Int)} (h : Sto f s o) (hf : f.ok) {n : Int} {p : List Int} (hp : Bytes p) (hn : n < 9223372036854775808) : Sto (fuseF f n p) s o := by
  have hok := fuseF_ok (n := n) hf hp hn
  rcases h with ⟨h1, h2⟩ | ⟨h1, h2⟩
  · exact .inl ⟨h1.fl (g := upF (fuseF f n p)) rfl rfl rfl rfl (upF_ok hok), h2⟩
  · exact .inr ⟨h1.fl (g := fuseF f n p) rfl rfl rfl rfl hok, h2⟩
theorem startF_rest {f : Fl} (h : f.down = false) : startF f = f := by unfold startF; rw [if_neg (by rw [h]; decide)]
theorem startF_idem (f : Fl) : startF (startF f) = startF f := startF_rest (startF_same f).2.2.2
theorem Sto.again {f : Fl} {s : St} {o : Option (List Int)} (h : Sto f s o) (hf : f.ok) (hbad : s.spec.any badP = false) : openE (startF f) s.first s.blocks s.spec = 0 ∧ Surv (startF f) (openF (startF f) s.first s.blocks s.spec) (openF (startF f) s.first s.blocks s.spec).saved none ∧ ((openF (startF f) s.first s.blocks s.spec).saved = s.saved ∨ o = some (openF (startF f) s.first s.blocks s.spec).saved) ∧ Same s (openF (startF f) s.first s.blocks s.spec) := by
  rcases h with ⟨h1, h2⟩ | ⟨h1, h2⟩
  · obtain ⟨e1, e2, e3, e4⟩ := startF_same f
    have hl : Live (startF f) s := h1.fl (g := startF f) e1 e2 e3 e4 (startF_ok hf)
    have hs : Surv (startF f) s s.saved o := ⟨rfl, .inl ⟨hl, h2⟩⟩
    have := hs.again hbad
    rw [startF_idem] at this
    exact this
  · have hs : Surv f s s.saved o := ⟨rfl, .inr ⟨h1, h2⟩⟩
    exact hs.again hbad
theorem Sto.seq {f : Fl} {s : St} {o : Option (List Int)} (h : Sto f s o) (hf : f.ok) (hbad : s.spec.any badP = false) {n : Int} (hn : s.seq ≤ n) : (openF (startF f) s.first s.blocks s.spec).seq ≤ n + 1 := by
  rcases h with ⟨h1, h2⟩ | ⟨h1, h2⟩
  · obtain ⟨e1, e2, e3, e4⟩ := startF_same f
    have hl : Live (startF f) s := h1.fl (g := startF f) e1 e2 e3 e4 (startF_ok hf)
    have hs : Surv (startF f) s s.saved o := ⟨rfl, .inl ⟨hl, h2⟩⟩
    have := (SurQ.again (f := startF f) (s := s) (n := n) ⟨⟨_, _, hs⟩, hn⟩ hbad).2.1.2
    rw [startF_idem] at this
    exact this
  · have hs : Surv f s s.saved o := ⟨rfl, .inr ⟨h1, h2⟩⟩
    exact (SurQ.again (f := f) (s := s) (n := n) ⟨⟨_, _, hs⟩, hn⟩ hbad).2.1.2

/-- What every call keeps. -/
structure BkJ (f : Fl) (b : Bk) (n : Int) : Prop where
  ok : BkOk f b
  fo : f.ok
  lv : b.broken = false → f.down = false → Live f b.st ∧ b.record = b.st.busy
  dn : b.broken = false → f.down = false
  sto : ∃ o, Sto f b.st o
  er2 : ∀ e ∈ b.erase, ((b.first + 2 : Nat) : Int) ≤ e ∧ e < ((b.first + b.blocks : Nat) : Int)
  pg2 : ∀ d, b.data = some d → (b.first + 2) * f.pg ≤ b.page ∧ b.page < (b.first + b.blocks) * f.pg
  sq : b.st.seq ≤ n
  ul : b.upload = true → 1 ≤ b.length
theorem BkJ.more {f : Fl} {b : Bk} {n m : Int} (h : BkJ f b n) (hm : n ≤ m) : BkJ f b m := ⟨h.ok, h.fo, h.lv, h.dn, h.sto, h.er2, h.pg2, Int.le_trans h.sq hm, h.ul⟩
theorem BkJ.rdy {f : Fl} {b : Bk} {n : Int} (h : BkJ f b n) : BkJ f (rdyB b f) n := by
  refine ⟨rdy_ok h.ok, h.fo, fun hb hd => h.lv (rdy_up hb).1 hd, fun hb => (rdy_up hb).2, h.sto, h.er2, h.pg2, h.sq, h.ul⟩
/-- A bank whose fields are others, the store being the same. -/
theorem BkJ.with {f : Fl} {b c : Bk} {n : Int} (h : BkJ f b n) (hok : BkOk f c) (hst : c.st = b.st) (hbr : c.broken = b.broken) (hrc : c.record = b.record) (he : ∀ e ∈ c.erase, ((c.first + 2 : Nat) : Int) ≤ e ∧ e < ((c.first + c.blocks : Nat) : Int)) (hp : ∀ d, c.data = some d → (c.first + 2) * f.pg ≤ c.page ∧ c.page < (c.first + c.blocks) * f.pg) (hu : c.upload = true → 1 ≤ c.length) : BkJ f c n :=
  ⟨hok, h.fo, fun hb hd => by rw [hst, hrc]; rw [hbr] at hb; exact h.lv hb hd, fun hb => by rw [hbr] at hb; exact h.dn hb, by rw [hst]; exact h.sto, he, hp, by rw [hst]; exact h.sq, hu⟩

theorem beginB_J {f : Fl} {b : Bk} {n : Int} (h : BkJ f b n) (hok : ∀ v l, BkOk f (beginB b f v l).1) (v l : Int) : BkJ f (beginB b f v l).1 n := by
  have ho := hok v l
  revert ho
  unfold beginB
  split
  · exact fun _ => h.rdy
  split
  · exact fun _ => h.rdy
  split
  · exact fun _ => h.rdy
  split
  · exact fun _ => h.rdy
  rename_i hr
  intro ho
  have hr2 : 1 ≤ l ∧ l ≤ (sizeF f b.blocks : Nat) := Classical.byContradiction fun e => hr (.inr e)
  refine h.rdy.with ho rfl rfl rfl (fun e he => ?_) h.rdy.pg2 (fun _ => ?_)
  · have he' : e ∈ (List.range b.k).map fun (i : Nat) => ((blkB b (1 - (savB b 0).toNat) + i : Nat) : Int) := he
    obtain ⟨i, hi, rfl⟩ := List.mem_map.1 he'
    have hi := List.mem_range.1 hi
    have h1 : (1 - (savB b 0).toNat) * b.k ≤ 1 * b.k := Nat.mul_le_mul_right _ (by omega)
    have h3 := h.ok.bk
    show ((b.first + 2 : Nat) : Int) ≤ _ ∧ _ < ((b.first + b.blocks : Nat) : Int)
    unfold blkB
    omega
  · show 1 ≤ l.toNat
    omega
theorem feedB_ok {f : Fl} {b : Bk} (h : BkOk f b) (hf : f.ok) {x : List Int} (hx : Bytes x) : BkOk f (feedB b f x).1 ∧ (b.fed ≤ b.length → ∀ d, (feedB b f x).2 = 0 → (feedB b f x).1.data = some d → (b.first + 2) * f.pg ≤ (feedB b f x).1.page ∧ (feedB b f x).1.page < (b.first + b.blocks) * f.pg) := by
  have h' := rdy_ok h
  unfold feedB
  split
  · exact ⟨h', fun _ d hd => by cases hd⟩
  split
  · exact ⟨h', fun _ d hd => by cases hd⟩
  rename_i h2
  split
  · exact ⟨h', fun _ d hd => by cases hd⟩
  split
  · exact ⟨h', fun _ d hd => by cases hd⟩
  rename_i h4
  have h4' : x.length = min 64 (b.length - b.fed) := Classical.byContradiction h4
  have hfl : b.fed ≠ b.length := fun e => h2 (.inr e)
  have hfd := h.fed
  have hlen := h.len
  obtain ⟨hr1, hr2⟩ := slot_room h hf.b2 hf.p2 (s := b.dst) h.dst
  have h1024 := pages_1024 hf
  have hkey : blkB b b.dst * f.pg + b.fed / 64 < (b.first + b.blocks) * f.pg ∧ (b.first + 2) * f.pg ≤ blkB b b.dst * f.pg + b.fed / 64 := by
    constructor
    · have e1 : blkB b b.dst + b.k ≤ b.first + b.blocks := by
        unfold blkB
        have := Nat.mul_le_mul_right b.k h.dst
        have := h.bk
        omega
      have e2 := Nat.mul_le_mul_right f.pg e1
      rw [Nat.add_mul] at e2
      rw [hr2] at hlen
      generalize b.k * f.pg = x1 at *
      omega
    · have : b.first + 2 ≤ blkB b b.dst := by unfold blkB; omega
      have := Nat.mul_le_mul_right f.pg this
      omega
  have hfw := Nat.mul_le_mul_right f.pg h.fw
  refine ⟨⟨h'.ok, h'.sp, h'.fi, h'.bl, h'.lg, h'.br, h'.bk, h'.k1, h'.k8, h'.fw, h'.pg, h'.slot, h'.dst, h'.ver, h'.len, by show b.fed + x.length ≤ b.length; omega, h'.er, fun d hd => ?_, by show blkB b b.dst * f.pg + b.fed / 64 < 1024; omega⟩, fun _ d _ hd => ⟨hkey.2, hkey.1⟩⟩
  have e : padB x = d := by injection hd
  subst e
  exact ⟨padB_length (by omega), padB_bytes hx⟩
theorem feedB_J {f : Fl} {b : Bk} {n : Int} (h : BkJ f b n) {x : List Int} (hx : Bytes x) : BkJ f (feedB b f x).1 n := by
  obtain ⟨ho, hp⟩ := feedB_ok h.ok h.fo hx
  have hp := hp h.ok.fed
  revert ho hp
  unfold feedB
  split
  · exact fun _ _ => h.rdy
  split
  · exact fun _ _ => h.rdy
  split
  · exact fun _ _ => h.rdy
  split
  · exact fun _ _ => h.rdy
  intro ho hp
  exact h.rdy.with ho rfl rfl rfl h.rdy.er2 (fun d hd => hp d rfl hd) h.rdy.ul
theorem abortB_J {f : Fl} {b : Bk} {n : Int} (h : BkJ f b n) : BkJ f (abortB b f).1 n := by
  have h' := h.rdy
  unfold abortB
  split
  · exact h'
  split
  · exact h'
  have ho := h'.ok
  refine h'.with ⟨ho.ok, ho.sp, ho.fi, ho.bl, ho.lg, ho.br, ho.bk, ho.k1, ho.k8, ho.fw, ho.pg, ho.slot, ho.dst, ho.ver, ho.len, ho.fed, fun e he => (by cases he), fun d hd => (by cases hd), ho.page⟩ rfl rfl rfl (fun e he => by cases he) (fun d hd => by cases hd) (fun e => by cases e)
theorem imageB_fst {f : Fl} {b : Bk} (s : Int) : (imageB b f s).1 = rdyB b f := by
  unfold imageB
  repeat' split
  all_goals rfl
end Go.Proofs.Ytjdknddnanopaaa
