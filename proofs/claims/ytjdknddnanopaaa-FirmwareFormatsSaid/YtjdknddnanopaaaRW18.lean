
/-
  The reference's flash: pick, burn, SetFuse, Start, Read.
-/
import Derived.Test.YtjdknddnanopaaaMb
import Derived.Laws.ResultCell
namespace Go.Proofs.Ytjdknddnanopaaa
open Go.RowKit
set_option linter.unusedVariables false

theorem results_cell_one {fn : Func} {p : Tmp} {ty : TypeId} (h : fn.results = #[.cell p ty]) (tmps : Array Value) (P : Program) (w : World) :
    (results fn tmps).run P w = ((asAddr (tmps.getD p undef)).run P w).andThen fun a w₁ => (loadVar ty a).run P w₁ := by
  simp only [results, h]
  simp [Sem.run_bind, Result.andThen]

theorem results_cell_two {fn : Func} {p u v : Tmp} {ty : TypeId} (h : fn.results = #[.cell p ty, .tmp u, .tmp v]) (tmps : Array Value) (P : Program) (w : World) :
    (results fn tmps).run P w =
      ((asAddr (tmps.getD p undef)).run P w).andThen fun a w₁ => ((loadVar ty a).run P w₁).andThen fun x w₂ => .ok (.tuple #[x, tmps.getD u undef, tmps.getD v undef]) w₂ := by
  simp only [results, h]
  simp [Sem.run_bind, Result.andThen]

theorem pickR_any {X : Nat → Prop} {w : World} {x : Rc} {g : Fl} (h : RAt X w x g) (i : Nat) (hi : i < 100000) :
    Calls Try.prog 112 #[x.v g, .int .i64 i] w fun e w' => e = .returned (.int .u8 (pickF g.picks i)) ∧ Below w.heap.size w w' := by
  obtain ⟨NP, hNP⟩ : ∃ n, g.picks.length = n := ⟨_, rfl⟩
  have hp2 : NP ≤ maxLen := by rw [← hNP]; exact Nat.le_trans h.p1 h.p2
  have H := Lib.hid h
  have HN := Lib.hid hNP
  obtain ⟨A, c, B, d, P, r⟩ := x
  show Calls Try.prog 112 #[.agg #[.slice A g.img.length c, .int .i64 g.pg, .slice B g.wear.length d, .bool g.down, .int .i64 g.fuse, .slice P g.picks.length r], _] w _
  rw [hNP]
  have HB : Hid (Below w.heap.size w (w.alloc (.cells #[.slice A g.img.length c, .int .i64 g.pg, .slice B g.wear.length d, .bool g.down, .int .i64 g.fuse, .slice P NP r] 37))) := (Below.refl _ _).alloc (Nat.le_refl _) _
  unfold maxLen at hp2
  by_cases hlt : i < NP
  · obtain ⟨y, hy⟩ := getElem?_of_lt (l := g.picks) (k := i) (by rw [hNP]; exact hlt)
    have hy2 : pickF g.picks i = y := by unfold pickF; rw [hy]; rfl
    rw [hy2]
    obtain ⟨bb, off, hP, hbl, c0⟩ := (h.p.rd.below (HB.out) (Nat.le_refl _)).kint hy
    simp only at hP
    subst hP
    clear hy hy2 h hNP
    go_enter Try.func112, Try.ntmps112
    go_wp2
    go_ret
    exact ⟨rfl, HB.out⟩
  · have hy2 : pickF g.picks i = 0 := by unfold pickF; rw [List.getElem?_eq_none (by omega)]; rfl
    rw [hy2]
    clear hy2 h hNP
    go_enter Try.func112, Try.ntmps112
    go_wp2
    go_ret
    exact ⟨rfl, HB.out⟩

theorem below_one (w : World) (o : Obj) : Below w.heap.size w (w.alloc o) := (Below.refl _ _).alloc (Nat.le_refl _) o
theorem below_two (w : World) (o p : Obj) : Below w.heap.size w ((w.alloc o).alloc p) := (below_one w o).alloc (by rw [show (w.alloc o).heap.size = w.heap.size + 1 from Array.size_push _]; omega) p

theorem burn_any {X : Nat → Prop} {w : World} {x : Rc} {g : Fl} (h : RAt X w x g) :
    Calls Try.prog 111 #[x.v g] w fun e w' => e = .returned (.tuple #[x.v (cutF g).1, .bool (cutF g).2]) ∧ Below w.heap.size w w' := by
  have hf := h.ok.fu1
  have hf2 := h.ok.fu2
  obtain ⟨A, c, B, d, P, r⟩ := x
  show Calls Try.prog 111 #[.agg #[.slice A g.img.length c, .int .i64 g.pg, .slice B g.wear.length d, .bool g.down, .int .i64 g.fuse, .slice P g.picks.length r]] w _
  unfold cutF
  clear h
  by_cases h0 : g.fuse = 0
  · rw [if_pos h0]
    show Calls _ _ _ _ fun e w' => e = .returned (.tuple #[.agg #[.slice A g.img.length c, .int .i64 g.pg, .slice B g.wear.length d, .bool true, .int .i64 g.fuse, .slice P g.picks.length r], .bool true]) ∧ _
    have h1 : (g.fuse == 0) = true := by simpa using h0
    clear h0
    go_enter Try.func111, Try.ntmps111
    go_wp2
    (try simp only [Exit.inBlock, Exit.then])
    refine bodyPost_ret (v := .tuple #[.agg #[.slice A g.img.length c, .int .i64 g.pg, .slice B g.wear.length d, .bool true, .int .i64 g.fuse, .slice P g.picks.length r], .bool true]) ?_ rfl ⟨rfl, below_two _ _ _⟩
    rw [results_cell_tmp rfl]
    go_simp
  · rw [if_neg h0]
    have h1 : (g.fuse == 0) = false := by simpa using h0
    by_cases h2 : 0 < g.fuse
    · rw [if_pos h2]
      show Calls _ _ _ _ fun e w' => e = .returned (.tuple #[.agg #[.slice A g.img.length c, .int .i64 g.pg, .slice B g.wear.length d, .bool g.down, .int .i64 (g.fuse - 1), .slice P g.picks.length r], .bool false]) ∧ _
      clear h0
      go_enter Try.func111, Try.ntmps111
      go_wp2
      (try simp only [Exit.inBlock, Exit.then])
      refine bodyPost_ret (v := .tuple #[.agg #[.slice A g.img.length c, .int .i64 g.pg, .slice B g.wear.length d, .bool g.down, .int .i64 (g.fuse - 1), .slice P g.picks.length r], .bool false]) ?_ rfl ⟨rfl, below_two _ _ _⟩
      rw [results_cell_tmp rfl]
      go_simp
    · rw [if_neg h2]
      have h3 : decide (0 < g.fuse) = false := by simpa using h2
      show Calls _ _ _ _ fun e w' => e = .returned (.tuple #[.agg #[.slice A g.img.length c, .int .i64 g.pg, .slice B g.wear.length d, .bool g.down, .int .i64 g.fuse, .slice P g.picks.length r], .bool false]) ∧ _
      clear h0 h2
      go_enter Try.func111, Try.ntmps111
      go_wp2
      (try simp only [Exit.inBlock, Exit.then])
      refine bodyPost_ret (v := .tuple #[.agg #[.slice A g.img.length c, .int .i64 g.pg, .slice B g.wear.length d, .bool g.down, .int .i64 g.fuse, .slice P g.picks.length r], .bool false]) ?_ rfl ⟨rfl, below_two _ _ _⟩
      rw [results_cell_tmp rfl]
      go_simp

end Go.Proofs.Ytjdknddnanopaaa
