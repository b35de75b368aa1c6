/-
  The memory of the reference's simulation: jobs, what they need, and who ran.
-/
import Derived.Test.YtcfhnjdaijdoiaaMem6
namespace Go.Proofs.Ytcfhnjdaijdoiaa
open Go.RowKit

structure RS (w0 wr : World) (jobs : List Jb) (jv : Value) (left : List Int) (lv : Value) (out : List Int) (ov : Value) : Prop where
  below : Below w0.heap.size w0 wr
  jobs_ : wr.ownsRow w0.heap.size 40 4 jv jobs.length (jcells jobs)
  left_ : wr.ownsRow w0.heap.size 3 1 lv left.length (icells left)
  out_ : wr.ownsRow w0.heap.size 3 1 ov out.length (icells out)
  sep : ∀ g, lv.ownBlock = some g → ov.ownBlock ≠ some g

theorem icells_snoc' (m : List Int) (x : Int) : icells (m ++ [x]) = icells m ++ [.int .i64 x] := by simp [icells]
theorem icells_set (m : List Int) (k : Nat) (x : Int) : icells (m.set k x) = (icells m).set k (.int .i64 x) := by simp [icells]

section
variable {w0 wr w' : World} {jobs : List Jb} {jv : Value} {left : List Int} {lv : Value} {out : List Int} {ov : Value}

theorem RS.grown (h : RS w0 wr jobs jv left lv out ov) (hg : wr.grownBy w' none) : RS w0 w' jobs jv left lv out ov :=
  ⟨h.below.grown hg h.below.size (fun k hk => by cases hk), kept_of h.jobs_ hg (fun _ _ => by simp), kept_of h.left_ hg (fun _ _ => by simp), kept_of h.out_ hg (fun _ _ => by simp), h.sep⟩
theorem RS.alloc (h : RS w0 wr jobs jv left lv out ov) (o : Obj) : RS w0 (wr.alloc o) jobs jv left lv out ov := h.grown (World.grownBy_alloc wr o none)
theorem RS.drewN (h : RS w0 wr jobs jv left lv out ov) (k : Nat) : RS w0 (wr.drewN k) jobs jv left lv out ov := h.grown ⟨rfl, rfl, rfl, Nat.le_refl _, fun _ _ _ => rfl⟩

theorem RS.start (w0 : World) : RS w0 w0 [] (.slice none 0 0) [] (.slice none 0 0) [] (.slice none 0 0) :=
  ⟨Below.refl _ _, World.ownsRow_nil .., World.ownsRow_nil .., World.ownsRow_nil .., fun g h => by simp [Value.ownBlock] at h⟩

theorem RS.addJob (h : RS w0 wr jobs jv left lv out ov) {jv' : Value} {jb : Jb} (hg : wr.grownBy w' jv.ownBlock) (ho : w'.ownsRow w0.heap.size 40 4 jv' (jobs.length + 1) (jcells jobs ++ jb.cells)) :
    RS w0 w' (jobs ++ [jb]) jv' left lv out ov := by
  have hz : jcells (jobs ++ [jb]) = jcells jobs ++ jb.cells := by simp [jcells]
  refine ⟨h.below.grown hg h.below.size (fun k hk => (h.jobs_.lt k hk).1), by rw [hz, List.length_append]; exact ho, ?_, ?_, h.sep⟩
  · exact kept_of h.left_ hg (fun g' e e' => own_ne_own h.left_ h.jobs_ (by decide) g' e e')
  · exact kept_of h.out_ hg (fun g' e e' => own_ne_own h.out_ h.jobs_ (by decide) g' e e')

theorem RS.addLeft (h : RS w0 wr jobs jv left lv out ov) {lv' : Value} {f : Int} (hg : wr.grownBy w' lv.ownBlock) (ho : w'.ownsRow w0.heap.size 3 1 lv' (left.length + 1) (icells left ++ [.int .i64 f]))
    (hb : lv'.ownBlock = lv.ownBlock ∨ lv'.ownBlock = some wr.heap.size) : RS w0 w' jobs jv (left ++ [f]) lv' out ov := by
  refine ⟨h.below.grown hg h.below.size (fun k hk => (h.left_.lt k hk).1), ?_, by rw [icells_snoc', List.length_append]; exact ho, ?_, ?_⟩
  · exact kept_of h.jobs_ hg (fun g' e e' => own_ne_own h.jobs_ h.left_ (by decide) g' e e')
  · exact kept_of h.out_ hg (fun g' e e' => h.sep g' e' e)
  · intro g hg' e
    rcases hb with e' | e' <;> rw [e'] at hg'
    · exact h.sep g hg' e
    · have := (h.out_.lt g e).2
      cases hg'
      omega

theorem RS.addOut (h : RS w0 wr jobs jv left lv out ov) {ov' : Value} {r : Int} (hg : wr.grownBy w' ov.ownBlock) (ho : w'.ownsRow w0.heap.size 3 1 ov' (out.length + 1) (icells out ++ [.int .i64 r]))
    (hb : ov'.ownBlock = ov.ownBlock ∨ ov'.ownBlock = some wr.heap.size) : RS w0 w' jobs jv left lv (out ++ [r]) ov' := by
  refine ⟨h.below.grown hg h.below.size (fun k hk => (h.out_.lt k hk).1), ?_, ?_, by rw [icells_snoc', List.length_append]; exact ho, ?_⟩
  · exact kept_of h.jobs_ hg (fun g' e e' => own_ne_own h.jobs_ h.out_ (by decide) g' e e')
  · exact kept_of h.left_ hg (fun g' e e' => h.sep g' e e')
  · intro g hg' e
    rcases hb with e' | e' <;> rw [e'] at e
    · exact h.sep g hg' e
    · have := (h.left_.lt g hg').2
      cases e
      omega

/-- The cells of job k. -/
theorem RS.job (h : RS w0 wr jobs jv left lv out ov) {k : Nat} {jb : Jb} (hk : jobs[k]? = some jb) :
    ∃ b c, jv = .slice (some ⟨b, 0, none⟩) jobs.length c ∧ wr.cell? ⟨b, k * 4, none⟩ = some (.int .i64 jb.k) ∧ wr.cell? ⟨b, k * 4 + 1, none⟩ = some (.int .i64 jb.rel) ∧ wr.cell? ⟨b, k * 4 + 2, none⟩ = some (.int .i64 jb.st) ∧
      wr.cell? ⟨b, k * 4 + 3, none⟩ = some (.int .i64 jb.fin) ∧ (∀ j, wr.frozen? ⟨b, j, none⟩ = false) ∧ w0.heap.size ≤ b := by
  obtain ⟨A, c, rfl, h1, h2, h3⟩ := own_form h.jobs_
  obtain ⟨b, rfl, hb1, hb2⟩ := h3 (by have := (List.getElem?_eq_some_iff.1 hk).1; omega)
  have key := fun j hj => own_flat Jb.cells 4 Jb.cells_length rfl h.jobs_ hk j hj
  exact ⟨b, c, rfl, key 0 (by omega), key 1 (by omega), key 2 (by omega), key 3 (by omega), fun j => h.jobs_.frozenAt j, hb1⟩

/-- The cell of what job k needs. -/
theorem RS.leftc (h : RS w0 wr jobs jv left lv out ov) {k : Nat} {f : Int} (hk : left[k]? = some f) :
    ∃ b c, lv = .slice (some ⟨b, 0, none⟩) left.length c ∧ wr.cell? ⟨b, k, none⟩ = some (.int .i64 f) ∧ (∀ j, wr.frozen? ⟨b, j, none⟩ = false) ∧ (∀ c', jv.ownBlock = some c' → c' ≠ b) := by
  obtain ⟨A, c, rfl, h1, h2, h3⟩ := own_form h.left_
  have hlt := (List.getElem?_eq_some_iff.1 hk).1
  obtain ⟨b, rfl, hb1, hb2⟩ := h3 (by omega)
  refine ⟨b, c, rfl, ?_, fun j => h.left_.frozenAt j, fun c' hc' e => own_ne_own h.jobs_ h.left_ (by decide) c' hc' (by rw [e]; rfl)⟩
  rw [h.left_.cellAt k (by omega)]
  simp [icells, hk]

theorem RS.setJob {b c N : Nat} (h : RS w0 wr jobs (.slice (some ⟨b, 0, none⟩) N c) left lv out ov) (hN : jobs.length = N) {k : Nat} {jb jb' : Jb} (hk : jobs[k]? = some jb) (j : Nat) (hj : j < 4) (u : Value) (hc : jb'.cells = jb.cells.set j u) :
    RS w0 (wr.setCell ⟨b, k * 4 + j, none⟩ u) (jobs.set k jb') (.slice (some ⟨b, 0, none⟩) N c) left lv out ov := by
  subst hN
  obtain ⟨hl, hg⟩ := h.jobs_.stored (k * 4 + j) u
  have hz : jcells (jobs.set k jb') = (jcells jobs).set (k * 4 + j) u := flat_set Jb.cells 4 Jb.cells_length jobs k jb jb' j u hk hj hc
  refine ⟨h.below.setCell (p := ⟨b, k * 4 + j, none⟩) (h.jobs_.lt b rfl).1 u, by rw [hz, List.length_set]; exact hl, ?_, ?_, h.sep⟩
  · exact kept_of h.left_ hg (fun g' e e' => own_ne_own h.left_ h.jobs_ (by decide) g' e (by simpa [Value.ownBlock] using e'))
  · exact kept_of h.out_ hg (fun g' e e' => own_ne_own h.out_ h.jobs_ (by decide) g' e (by simpa [Value.ownBlock] using e'))

theorem RS.setLeft {b c N : Nat} (h : RS w0 wr jobs jv left (.slice (some ⟨b, 0, none⟩) N c) out ov) (hN : left.length = N) (k : Nat) (f : Int) :
    RS w0 (wr.setCell ⟨b, k, none⟩ (.int .i64 f)) jobs jv (left.set k f) (.slice (some ⟨b, 0, none⟩) N c) out ov := by
  subst hN
  obtain ⟨hl, hg⟩ := h.left_.stored k (.int .i64 f)
  refine ⟨h.below.setCell (p := ⟨b, k, none⟩) (h.left_.lt b rfl).1 _, ?_, by rw [icells_set, List.length_set]; exact hl, ?_, h.sep⟩
  · exact kept_of h.jobs_ hg (fun g' e e' => own_ne_own h.jobs_ h.left_ (by decide) g' e (by simpa [Value.ownBlock] using e'))
  · exact kept_of h.out_ hg (fun g' e e' => h.sep g' (by simpa [Value.ownBlock] using e') e)
end
end Go.Proofs.Ytcfhnjdaijdoiaa
