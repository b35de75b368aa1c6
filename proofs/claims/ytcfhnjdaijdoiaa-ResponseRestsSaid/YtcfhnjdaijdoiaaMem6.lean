/-
  The memory of the simulation: lines, queues, jobs, and who ran.
-/
import Derived.Test.YtcfhnjdaijdoiaaMem5
import Derived.Test.YtcfhnjdaijdoiaaPlain9
namespace Go.Proofs.Ytcfhnjdaijdoiaa
open Go.RowKit

theorem flat_set {α : Type} (f : α → List Value) (m : Nat) (hm : ∀ a, (f a).length = m) (l : List α) (k : Nat) (x y : α) (j : Nat) (u : Value) (hx : l[k]? = some x) (hj : j < m) (hy : f y = (f x).set j u) :
    (l.set k y).flatMap f = (l.flatMap f).set (k * m + j) u := by
  induction l generalizing k with
  | nil => simp at hx
  | cons a l ih =>
    cases k with
    | zero =>
      simp at hx; subst hx
      simp only [List.set_cons_zero, List.flatMap_cons, Nat.zero_mul, Nat.zero_add]
      rw [List.set_append_left _ _ (by rw [hm]; exact hj), hy]
    | succ k =>
      have := ih k (by simpa using hx)
      simp only [List.set_cons_succ, List.flatMap_cons]
      rw [this, List.set_append_right _ _ (by rw [hm, Nat.add_mul]; omega), hm, show (k + 1) * m + j - m = k * m + j by rw [Nat.add_mul]; omega]

/-- A cell of an owned row of structs. -/
theorem own_flat {α : Type} (f : α → List Value) (m : Nat) (hm : ∀ a, (f a).length = m) {w : World} {base e g n cap : Nat} {l : List α} (hl : l.length = n)
    (h : w.ownsRow base e m (.slice (some ⟨g, 0, none⟩) n cap) n (l.flatMap f)) {k : Nat} {x : α} (hx : l[k]? = some x) (j : Nat) (hj : j < m) :
    w.cell? ⟨g, k * m + j, none⟩ = (f x)[j]? := by
  have hk : k < n := by rw [← hl]; exact (List.getElem?_eq_some_iff.1 hx).1
  have hkm : k * m + j < n * m := by
    have : (k + 1) * m ≤ n * m := Nat.mul_le_mul_right m (by omega)
    rw [Nat.add_mul] at this
    omega
  rw [h.cellAt (k * m + j) hkm]
  have hu : (f x)[j]? = some ((f x)[j]'(by rw [hm]; exact hj)) := List.getElem?_eq_getElem _
  rw [hu]
  exact flat_get f m hm l k j x _ hx hu

theorem own_ne_own {w : World} {e e' B B' size size' n n' : Nat} {v v' : Value} {xs xs' : List Value} (h : w.ownsRow B e size v n xs) (h' : w.ownsRow B' e' size' v' n' xs') (hne : e ≠ e') :
    ∀ g, v.ownBlock = some g → v'.ownBlock ≠ some g := by
  intro g hg hg'
  rcases h.2 with ⟨rfl, _⟩ | ⟨g1, cap1, cur1, rfl, _, hh, _⟩
  · simp [Value.ownBlock] at hg
  · simp [Value.ownBlock] at hg
    subst hg
    rcases h'.2 with ⟨rfl, _⟩ | ⟨g2, cap2, cur2, rfl, _, hh2, _⟩
    · simp [Value.ownBlock] at hg'
    · simp [Value.ownBlock] at hg'
      subst hg'
      rw [hh] at hh2
      injection hh2 with hh2
      injection hh2 with _ ht
      exact hne ht

theorem kept_of {w w' : World} {e B size n : Nat} {v : Value} {xs : List Value} (h : w.ownsRow B e size v n xs) {row : Option Nat} (hg : w.grownBy w' row) (hne : ∀ g, v.ownBlock = some g → row ≠ some g) : w'.ownsRow B e size v n xs := by
  refine h.kept hg ?_
  cases hv : v.ownBlock with
  | none => exact .inl rfl
  | some g => exact .inr (fun e => hne g hv e.symm)

def lnCells (p : Ln × Value) : List Value := p.1.x.cells ++ [p.2, .int .i64 p.1.left]
theorem lnCells_length (p : Ln × Value) : (lnCells p).length = 7 := rfl
def lcells (ls : List Ln) (vs : List Value) : List Value := (ls.zip vs).flatMap lnCells
def Jb.cells (x : Jb) : List Value := [.int .i64 x.k, .int .i64 x.rel, .int .i64 x.st, .int .i64 x.fin]
theorem Jb.cells_length (x : Jb) : x.cells.length = 4 := rfl
def jcells (l : List Jb) : List Value := l.flatMap Jb.cells

theorem zip_get {ls : List Ln} {vs : List Value} {k : Nat} {ln : Ln} {v : Value} (h : ls[k]? = some ln) (hv : vs[k]? = some v) : (ls.zip vs)[k]? = some (ln, v) := by
  rw [List.getElem?_zip_eq_some]; exact ⟨h, hv⟩

theorem zip_set (ls : List Ln) (vs : List Value) (k : Nat) (ln : Ln) (v : Value) : (ls.set k ln).zip (vs.set k v) = (ls.zip vs).set k (ln, v) := by
  induction ls generalizing vs k with
  | nil => simp
  | cons a ls ih =>
    cases vs with
    | nil => simp
    | cons b vs =>
      cases k with
      | zero => rfl
      | succ k => simp only [List.set_cons_succ, List.zip_cons_cons, ih]

theorem set_self {α : Type} (l : List α) (k : Nat) (x : α) (h : l[k]? = some x) : l.set k x = l := by
  obtain ⟨hl, rfl⟩ := List.getElem?_eq_some_iff.1 h
  exact List.set_getElem_self hl

/-- The memory of the simulation. -/
structure Sim (w0 wr : World) (n g : Nat) (ls : List Ln) (vs : List Value) (jobs : List Jb) (jv : Value) (out : List Int) (ov : Value) : Prop where
  below : Below w0.heap.size w0 wr
  lsn : ls.length = n
  vsn : vs.length = n
  lines : wr.ownsRow w0.heap.size 86 7 (.slice (some ⟨g, 0, none⟩) n n) n (lcells ls vs)
  jobs_ : wr.ownsRow w0.heap.size 40 4 jv jobs.length (jcells jobs)
  out_ : wr.ownsRow w0.heap.size 3 1 ov out.length (icells out)
  qs : ∀ (i : Nat) (ln : Ln) (v : Value), ls[i]? = some ln → vs[i]? = some v → QS wr 3 w0.heap.size v ln.q
  sep : ∀ (i j : Nat) (v v' : Value) (h : Nat), vs[i]? = some v → vs[j]? = some v' → v.ownBlock = some h → v'.ownBlock = some h → i = j
  sepo : ∀ (i : Nat) (v : Value) (h : Nat), vs[i]? = some v → v.ownBlock = some h → ov.ownBlock ≠ some h

section
variable {w0 wr w' : World} {n g : Nat} {ls : List Ln} {vs : List Value} {jobs : List Jb} {jv : Value} {out : List Int} {ov : Value}

theorem Sim.zlen (h : Sim w0 wr n g ls vs jobs jv out ov) : (ls.zip vs).length = n := by
  rw [List.length_zip, h.lsn, h.vsn, Nat.min_self]

theorem Sim.v_of (h : Sim w0 wr n g ls vs jobs jv out ov) {k : Nat} (hk : k < n) : ∃ v, vs[k]? = some v := getElem?_of_lt (by rw [h.vsn]; exact hk)

theorem Sim.base_g (h : Sim w0 wr n g ls vs jobs jv out ov) : w0.heap.size ≤ g ∧ g < wr.heap.size := h.lines.lt g rfl

/-- The world has grown, no row has turned. -/
theorem Sim.grown (h : Sim w0 wr n g ls vs jobs jv out ov) (hg : wr.grownBy w' none) : Sim w0 w' n g ls vs jobs jv out ov :=
  ⟨h.below.grown hg h.below.size (fun k hk => by cases hk), h.lsn, h.vsn, kept_of h.lines hg (fun _ _ => by simp), kept_of h.jobs_ hg (fun _ _ => by simp), kept_of h.out_ hg (fun _ _ => by simp),
    fun i ln v hi hv => (h.qs i ln v hi hv).kept hg (fun _ _ => by simp), h.sep, h.sepo⟩

theorem Sim.alloc (h : Sim w0 wr n g ls vs jobs jv out ov) (o : Obj) : Sim w0 (wr.alloc o) n g ls vs jobs jv out ov := h.grown (World.grownBy_alloc wr o none)
theorem Sim.drewN (h : Sim w0 wr n g ls vs jobs jv out ov) (k : Nat) : Sim w0 (wr.drewN k) n g ls vs jobs jv out ov := h.grown ⟨rfl, rfl, rfl, Nat.le_refl _, fun _ _ _ => rfl⟩

/-- The cells of line k. -/
theorem Sim.line (h : Sim w0 wr n g ls vs jobs jv out ov) {k : Nat} {ln : Ln} {v : Value} (hk : ls[k]? = some ln) (hv : vs[k]? = some v) :
    wr.cell? ⟨g, k * 7, none⟩ = some (.int .i64 ln.x.p) ∧ wr.cell? ⟨g, k * 7 + 1, none⟩ = some (.int .i64 ln.x.o) ∧ wr.cell? ⟨g, k * 7 + 2, none⟩ = some (.int .i64 ln.x.c) ∧
    wr.cell? ⟨g, k * 7 + 4, none⟩ = some (.int .i64 ln.x.q) ∧ wr.cell? ⟨g, k * 7 + 5, none⟩ = some v ∧ wr.cell? ⟨g, k * 7 + 6, none⟩ = some (.int .i64 ln.left) := by
  have key := fun j hj => own_flat lnCells 7 lnCells_length h.zlen h.lines (zip_get hk hv) j hj
  exact ⟨key 0 (by omega), key 1 (by omega), key 2 (by omega), key 4 (by omega), key 5 (by omega), key 6 (by omega)⟩

theorem Sim.lineFree (h : Sim w0 wr n g ls vs jobs jv out ov) (j : Nat) : wr.frozen? ⟨g, j, none⟩ = false := h.lines.frozenAt j

/-- No queue lies in the lines' block. -/
theorem Sim.ne_g (h : Sim w0 wr n g ls vs jobs jv out ov) {k : Nat} {ln : Ln} {v : Value} (hk : ls[k]? = some ln) (hv : vs[k]? = some v) : v.ownBlock ≠ some g :=
  fun e => (h.qs k ln v hk hv).ne_own h.lines (by decide) g e rfl

/-- A store into a line that leaves its queue alone. -/
theorem Sim.setLine (h : Sim w0 wr n g ls vs jobs jv out ov) {k : Nat} {ln ln' : Ln} {v : Value} (hk : ls[k]? = some ln) (hv : vs[k]? = some v) (j : Nat) (hj : j < 7) (u : Value)
    (hc : lnCells (ln', v) = (lnCells (ln, v)).set j u) (hq : ln'.q = ln.q) : Sim w0 (wr.setCell ⟨g, k * 7 + j, none⟩ u) n g (ls.set k ln') vs jobs jv out ov := by
  obtain ⟨hl, hg⟩ := h.lines.stored (k * 7 + j) u
  have hz : lcells (ls.set k ln') vs = (lcells ls vs).set (k * 7 + j) u := by
    unfold lcells
    rw [← flat_set lnCells 7 lnCells_length (ls.zip vs) k (ln, v) (ln', v) j u (zip_get hk hv) hj hc, ← zip_set, set_self vs k v hv]
  refine ⟨h.below.setCell (p := ⟨g, k * 7 + j, none⟩) h.base_g.1 u, by simpa using h.lsn, h.vsn, by rw [hz]; exact hl, ?_, ?_, ?_, h.sep, h.sepo⟩
  · exact kept_of h.jobs_ hg (fun g' e e' => own_ne_own h.jobs_ h.lines (by decide) g' e (by simpa [Value.ownBlock] using e'))
  · exact kept_of h.out_ hg (fun g' e e' => own_ne_own h.out_ h.lines (by decide) g' e (by simpa [Value.ownBlock] using e'))
  · intro i ln2 v2 hi hv2
    have hold : ∃ ln3, ls[i]? = some ln3 ∧ ln2.q = ln3.q := by
      rw [List.getElem?_set] at hi
      by_cases e : k = i
      · subst e
        rw [if_pos rfl, if_pos (List.getElem?_eq_some_iff.1 hk).1] at hi
        cases hi
        exact ⟨ln, hk, hq⟩
      · rw [if_neg e] at hi
        exact ⟨ln2, hi, rfl⟩
    obtain ⟨ln3, h3, e3⟩ := hold
    rw [e3]
    exact (h.qs i ln3 v2 h3 hv2).kept hg (fun g' e e' => (h.qs i ln3 v2 h3 hv2).ne_own h.lines (by decide) g' e (by simpa [Value.ownBlock] using e'))

/-- A new queue for line k is stored. -/
theorem Sim.setQueue (h : Sim w0 wr n g ls vs jobs jv out ov) {k : Nat} {ln : Ln} {v v' : Value} {q' : List Int} (hk : ls[k]? = some ln) (hv : vs[k]? = some v)
    (hq : QS wr 3 w0.heap.size v' q') (hb : ∀ b, v'.ownBlock = some b → v.ownBlock = some b) :
    Sim w0 (wr.setCell ⟨g, k * 7 + 5, none⟩ v') n g (ls.set k { ln with q := q' }) (vs.set k v') jobs jv out ov := by
  obtain ⟨hl, hg⟩ := h.lines.stored (k * 7 + 5) v'
  have hz : lcells (ls.set k { ln with q := q' }) (vs.set k v') = (lcells ls vs).set (k * 7 + 5) v' := by
    unfold lcells
    rw [← flat_set lnCells 7 lnCells_length (ls.zip vs) k (ln, v) ({ ln with q := q' }, v') 5 v' (zip_get hk hv) (by omega) rfl, ← zip_set]
  have getv : ∀ i v2, (vs.set k v')[i]? = some v2 → (i = k ∧ v2 = v') ∨ (i ≠ k ∧ vs[i]? = some v2) := by
    intro i v2 hi
    rw [List.getElem?_set] at hi
    by_cases e : k = i
    · subst e
      rw [if_pos rfl, if_pos (List.getElem?_eq_some_iff.1 hv).1] at hi
      exact .inl ⟨rfl, (Option.some.inj hi).symm⟩
    · rw [if_neg e] at hi
      exact .inr ⟨Ne.symm e, hi⟩
  refine ⟨h.below.setCell (p := ⟨g, k * 7 + 5, none⟩) h.base_g.1 v', by simpa using h.lsn, by simpa using h.vsn, by rw [hz]; exact hl, ?_, ?_, ?_, ?_, ?_⟩
  · exact kept_of h.jobs_ hg (fun g' e e' => own_ne_own h.jobs_ h.lines (by decide) g' e (by simpa [Value.ownBlock] using e'))
  · exact kept_of h.out_ hg (fun g' e e' => own_ne_own h.out_ h.lines (by decide) g' e (by simpa [Value.ownBlock] using e'))
  · intro i ln2 v2 hi hv2
    rcases getv i v2 hv2 with ⟨rfl, rfl⟩ | ⟨hne, hv2⟩
    · rw [List.getElem?_set, if_pos rfl, if_pos (List.getElem?_eq_some_iff.1 hk).1] at hi
      cases hi
      exact hq.kept hg (fun g' e e' => hq.ne_own h.lines (by decide) g' e (by simpa [Value.ownBlock] using e'))
    · rw [List.getElem?_set, if_neg (Ne.symm hne)] at hi
      exact (h.qs i ln2 v2 hi hv2).kept hg (fun g' e e' => (h.qs i ln2 v2 hi hv2).ne_own h.lines (by decide) g' e (by simpa [Value.ownBlock] using e'))
  · intro i j a b x hi hj ha hb'
    rcases getv i a hi with ⟨e1, e2⟩ | ⟨hni, hi2⟩ <;> rcases getv j b hj with ⟨e3, e4⟩ | ⟨hnj, hj2⟩
    · rw [e1, e3]
    · rw [e1]; rw [e2] at ha; exact h.sep _ _ _ _ x hv hj2 (hb x ha) hb'
    · rw [e3]; rw [e4] at hb'; exact h.sep _ _ _ _ x hi2 hv ha (hb x hb')
    · exact h.sep _ _ _ _ x hi2 hj2 ha hb'
  · intro i a x hi ha
    rcases getv i a hi with ⟨rfl, rfl⟩ | ⟨hni, hi⟩
    · exact h.sepo _ _ x hv (hb x ha)
    · exact h.sepo _ _ x hi ha

/-- The cells of job k; it is in memory of its own. -/
theorem Sim.job (h : Sim w0 wr n g ls vs jobs jv out ov) {k : Nat} {jb : Jb} (hk : jobs[k]? = some jb) :
    ∃ b c, jv = .slice (some ⟨b, 0, none⟩) jobs.length c ∧ b ≠ g ∧ wr.cell? ⟨b, k * 4, none⟩ = some (.int .i64 jb.k) ∧ wr.cell? ⟨b, k * 4 + 2, none⟩ = some (.int .i64 jb.st) ∧ wr.cell? ⟨b, k * 4 + 3, none⟩ = some (.int .i64 jb.fin) ∧
      ∀ j, wr.frozen? ⟨b, j, none⟩ = false := by
  obtain ⟨A, c, rfl, h1, h2, h3⟩ := own_form h.jobs_
  obtain ⟨b, rfl, hb1, hb2⟩ := h3 (by have := (List.getElem?_eq_some_iff.1 hk).1; omega)
  have key := fun j hj => own_flat Jb.cells 4 Jb.cells_length rfl h.jobs_ hk j hj
  exact ⟨b, c, rfl, fun e => own_ne_own h.jobs_ h.lines (by decide) b rfl (by rw [e]; rfl), key 0 (by omega), key 2 (by omega), key 3 (by omega), fun j => h.jobs_.frozenAt j⟩

/-- A store into a job. -/
theorem Sim.setJob {b c : Nat} (h : Sim w0 wr n g ls vs jobs (.slice (some ⟨b, 0, none⟩) jobs.length c) out ov) {k : Nat} {jb jb' : Jb} (hk : jobs[k]? = some jb) (j : Nat) (hj : j < 4) (u : Value) (hc : jb'.cells = jb.cells.set j u) :
    Sim w0 (wr.setCell ⟨b, k * 4 + j, none⟩ u) n g ls vs (jobs.set k jb') (.slice (some ⟨b, 0, none⟩) (jobs.set k jb').length c) out ov := by
  obtain ⟨hl, hg⟩ := h.jobs_.stored (k * 4 + j) u
  have hz : jcells (jobs.set k jb') = (jcells jobs).set (k * 4 + j) u := flat_set Jb.cells 4 Jb.cells_length jobs k jb jb' j u hk hj hc
  refine ⟨h.below.setCell (p := ⟨b, k * 4 + j, none⟩) (h.jobs_.lt b rfl).1 u, h.lsn, h.vsn, ?_, by rw [hz, List.length_set]; exact hl, ?_, ?_, h.sep, h.sepo⟩
  · exact kept_of h.lines hg (fun g' e e' => own_ne_own h.lines h.jobs_ (by decide) g' e (by simpa [Value.ownBlock] using e'))
  · exact kept_of h.out_ hg (fun g' e e' => own_ne_own h.out_ h.jobs_ (by decide) g' e (by simpa [Value.ownBlock] using e'))
  · intro i ln v hi hv
    exact (h.qs i ln v hi hv).kept hg (fun g' e e' => (h.qs i ln v hi hv).ne_own h.jobs_ (by decide) g' e (by simpa [Value.ownBlock] using e'))

/-- A job more. -/
theorem Sim.addJob (h : Sim w0 wr n g ls vs jobs jv out ov) {jv' : Value} {jb : Jb} (hg : wr.grownBy w' jv.ownBlock) (ho : w'.ownsRow w0.heap.size 40 4 jv' (jobs.length + 1) (jcells jobs ++ jb.cells)) :
    Sim w0 w' n g ls vs (jobs ++ [jb]) jv' out ov := by
  have hz : jcells (jobs ++ [jb]) = jcells jobs ++ jb.cells := by simp [jcells]
  refine ⟨h.below.grown hg h.below.size (fun k hk => (h.jobs_.lt k hk).1), h.lsn, h.vsn, ?_, by rw [hz, List.length_append]; exact ho, ?_, ?_, h.sep, h.sepo⟩
  · exact kept_of h.lines hg (fun g' e e' => own_ne_own h.lines h.jobs_ (by decide) g' e e')
  · exact kept_of h.out_ hg (fun g' e e' => own_ne_own h.out_ h.jobs_ (by decide) g' e e')
  · intro i ln v hi hv
    exact (h.qs i ln v hi hv).kept hg (fun g' e e' => (h.qs i ln v hi hv).ne_own h.jobs_ (by decide) g' e e')

/-- A unit more. -/
theorem Sim.addOut (h : Sim w0 wr n g ls vs jobs jv out ov) {ov' : Value} {r : Int} (hg : wr.grownBy w' ov.ownBlock) (ho : w'.ownsRow w0.heap.size 3 1 ov' (out.length + 1) (icells out ++ [.int .i64 r]))
    (hb : ov'.ownBlock = ov.ownBlock ∨ ov'.ownBlock = some wr.heap.size) : Sim w0 w' n g ls vs jobs jv (out ++ [r]) ov' := by
  have hz : icells (out ++ [r]) = icells out ++ [.int .i64 r] := by simp [icells]
  refine ⟨h.below.grown hg h.below.size (fun k hk => (h.out_.lt k hk).1), h.lsn, h.vsn, ?_, ?_, by rw [hz, List.length_append]; exact ho, ?_, h.sep, ?_⟩
  · exact kept_of h.lines hg (fun g' e e' => own_ne_own h.lines h.out_ (by decide) g' e e')
  · exact kept_of h.jobs_ hg (fun g' e e' => own_ne_own h.jobs_ h.out_ (by decide) g' e e')
  · intro i ln v hi hv
    exact (h.qs i ln v hi hv).kept hg (fun g' e e' => h.sepo i v g' hv e e')
  · intro i v b hv hvb e
    rcases hb with e' | e' <;> rw [e'] at e
    · exact h.sepo i v b hv hvb e
    · have hi : i < n := by rw [← h.vsn]; exact (List.getElem?_eq_some_iff.1 hv).1
      obtain ⟨ln, hln⟩ := getElem?_of_lt (l := ls) (k := i) (by rw [h.lsn]; exact hi)
      have := ((h.qs i ln v hln hv).lt hvb).2
      cases e
      omega

/-- Behind a release: the queue's new value is stored. -/
theorem Sim.released (h : Sim w0 wr n g ls vs jobs jv out ov) {w1 : World} {k : Nat} {ln : Ln} {v v' : Value} {q' : List Int} (hk : ls[k]? = some ln) (hv : vs[k]? = some v)
    (hq : QS w1 3 w0.heap.size v' q') (hg : wr.grownBy w1 v.ownBlock) (hb : v'.ownBlock = v.ownBlock ∨ ∃ b, v'.ownBlock = some b ∧ wr.heap.size ≤ b) :
    Sim w0 (w1.setCell ⟨g, k * 7 + 5, none⟩ v') n g (ls.set k { ln with q := q' }) (vs.set k v') jobs jv out ov := by
  have hqk := h.qs k ln v hk hv
  have hrow : ∀ b, v.ownBlock = some b → w0.heap.size ≤ b ∧ b < wr.heap.size := fun b e => hqk.lt e
  have lines1 : w1.ownsRow w0.heap.size 86 7 (.slice (some ⟨g, 0, none⟩) n n) n (lcells ls vs) := kept_of h.lines hg (fun g' e e' => hqk.ne_own h.lines (by decide) g' e' e)
  have jobs1 := kept_of h.jobs_ hg (fun g' e e' => hqk.ne_own h.jobs_ (by decide) g' e' e)
  have out1 := kept_of h.out_ hg (fun g' e e' => h.sepo k v g' hv e' e)
  have qs1 : ∀ (i : Nat) (ln2 : Ln) (v2 : Value), i ≠ k → ls[i]? = some ln2 → vs[i]? = some v2 → QS w1 3 w0.heap.size v2 ln2.q := fun i ln2 v2 hne hi hv2 =>
    (h.qs i ln2 v2 hi hv2).kept hg (fun g' e e' => hne (h.sep i k v2 v g' hv2 hv e e'))
  obtain ⟨hl, hgl⟩ := lines1.stored (k * 7 + 5) v'
  have hz : lcells (ls.set k { ln with q := q' }) (vs.set k v') = (lcells ls vs).set (k * 7 + 5) v' := by
    unfold lcells
    rw [← flat_set lnCells 7 lnCells_length (ls.zip vs) k (ln, v) ({ ln with q := q' }, v') 5 v' (zip_get hk hv) (by omega) rfl, ← zip_set]
  have getv : ∀ i v2, (vs.set k v')[i]? = some v2 → (i = k ∧ v2 = v') ∨ (i ≠ k ∧ vs[i]? = some v2) := by
    intro i v2 hi
    rw [List.getElem?_set] at hi
    by_cases e : k = i
    · subst e
      rw [if_pos rfl, if_pos (List.getElem?_eq_some_iff.1 hv).1] at hi
      exact .inl ⟨rfl, (Option.some.inj hi).symm⟩
    · rw [if_neg e] at hi
      exact .inr ⟨Ne.symm e, hi⟩
  have old : ∀ (i : Nat) (v2 : Value) (b : Nat), vs[i]? = some v2 → v2.ownBlock = some b → b < wr.heap.size := by
    intro i v2 b hv2 e
    have hi : i < n := by rw [← h.vsn]; exact (List.getElem?_eq_some_iff.1 hv2).1
    obtain ⟨ln2, hln⟩ := getElem?_of_lt (l := ls) (k := i) (by rw [h.lsn]; exact hi)
    exact ((h.qs i ln2 v2 hln hv2).lt e).2
  have below1 : Below w0.heap.size w0 w1 := h.below.grown hg h.below.size (fun b e => (hrow b e).1)
  refine ⟨below1.setCell (p := ⟨g, k * 7 + 5, none⟩) h.base_g.1 v', by simpa using h.lsn, by simpa using h.vsn, by rw [hz]; exact hl, ?_, ?_, ?_, ?_, ?_⟩
  · exact kept_of jobs1 hgl (fun g' e e' => own_ne_own jobs1 lines1 (by decide) g' e (by simpa [Value.ownBlock] using e'))
  · exact kept_of out1 hgl (fun g' e e' => own_ne_own out1 lines1 (by decide) g' e (by simpa [Value.ownBlock] using e'))
  · intro i ln2 v2 hi hv2
    rcases getv i v2 hv2 with ⟨rfl, rfl⟩ | ⟨hne, hv2⟩
    · rw [List.getElem?_set, if_pos rfl, if_pos (List.getElem?_eq_some_iff.1 hk).1] at hi
      cases hi
      exact hq.kept hgl (fun g' e e' => hq.ne_own lines1 (by decide) g' e (by simpa [Value.ownBlock] using e'))
    · rw [List.getElem?_set, if_neg (Ne.symm hne)] at hi
      have := qs1 i ln2 v2 hne hi hv2
      exact this.kept hgl (fun g' e e' => this.ne_own lines1 (by decide) g' e (by simpa [Value.ownBlock] using e'))
  · intro i j a b x hi hj ha hb'
    rcases getv i a hi with ⟨e1, e2⟩ | ⟨hni, hi2⟩ <;> rcases getv j b hj with ⟨e3, e4⟩ | ⟨hnj, hj2⟩
    · rw [e1, e3]
    · rw [e1]
      rw [e2] at ha
      rcases hb with e | ⟨y, e, hy⟩
      · exact h.sep _ _ _ _ x hv hj2 (e ▸ ha) hb'
      · have := old j b x hj2 hb'
        rw [ha] at e
        cases e
        omega
    · rw [e3]
      rw [e4] at hb'
      rcases hb with e | ⟨y, e, hy⟩
      · exact h.sep _ _ _ _ x hi2 hv ha (e ▸ hb')
      · have := old i a x hi2 ha
        rw [hb'] at e
        cases e
        omega
    · exact h.sep _ _ _ _ x hi2 hj2 ha hb'
  · intro i a x hi ha
    rcases getv i a hi with ⟨rfl, rfl⟩ | ⟨hni, hi⟩
    · rcases hb with e | ⟨y, e, hy⟩
      · exact h.sepo _ _ x hv (e ▸ ha)
      · intro eo
        have := (h.out_.lt x eo).2
        rw [ha] at e
        cases e
        omega
    · exact h.sepo _ _ x hi ha
end
end Go.Proofs.Ytcfhnjdaijdoiaa
