/-
  Layer 52: Fuse, Start, Down beside a bank and slices.
-/
import Derived.Test.YtjdknddnanopaaaI4
namespace Go.Proofs.Ytjdknddnanopaaa
open Go.RowKit
set_option linter.unusedVariables false
set_option linter.unusedSimpArgs false

section
variable {w0 w w' : World} {L : Lc} {S : Sc} {K : Kc} {f : Fl} {b : Bk} {d D : Nat} {l : List (Option Addr × List Value)}
theorem Aft.of_fl {Ap : Option Addr} {cp : Nat} (h : OnlyX (Own5 L S) w w') : Aft w w' L S K { L with Ap := Ap, cp := cp } S K :=
  ⟨h.more (fun g hg => .inl hg), fun b _ h => h, fun b _ h => h, fun b h => h, rfl, rfl, rfl, rfl⟩
theorem Bx.fuse (h : Bx w0 w d D l f b) (n : Int) (hn : I64 n) (A : Option Addr) (m c : Nat) (p : List Int) (hA : Rd w w.heap.size A (kcells .u8 p)) (hm : p.length = m) (hm2 : m ≤ 140737488351232) (hp : Bytes p) :
    Calls Try.prog 39 #[.pointer (some ⟨d, 0, none⟩), .int .i64 n, .slice A m c] w fun e w' => e = .returned (.tuple #[]) ∧ Bx w0 w' d D l (fuseF f n p) b := by
  obtain ⟨L, S, K, rfl, h2, hk, hl⟩ := h
  refine (fuseS_any hk.st n hn A m c p hA hm hm2 hp).mono ?_
  rintro e w' ⟨he, ⟨Ap, cp, hs⟩, ho⟩
  exact ⟨he, .of rfl h2 hl ⟨_, S, K, .of_fl ho, hk.prog2 hs ho⟩⟩
theorem Bx.start (h : Bx w0 w d D l f b) :
    Calls Try.prog 41 #[.pointer (some ⟨d, 0, none⟩)] w fun e w' => e = .returned (.tuple #[]) ∧ Bx w0 w' d D l (startF f) b := by
  obtain ⟨L, S, K, rfl, h2, hk, hl⟩ := h
  refine (startS_any hk.st).mono ?_
  rintro e w' ⟨he, ⟨Ap, cp, hs⟩, ho⟩
  exact ⟨he, .of rfl h2 hl ⟨_, S, K, .of_fl ho, hk.prog2 hs ho⟩⟩
theorem Bx.down (h : Bx w0 w d D l f b) :
    Calls Try.prog 40 #[.pointer (some ⟨d, 0, none⟩)] w fun e w' => e = .returned (.bool f.down) ∧ Bx w0 w' d D l f b := by
  have h0 := h
  obtain ⟨L, S, K, rfl, h2, hk, hl⟩ := h
  refine (down_any hk.st.fl).mono ?_
  rintro e w' ⟨he, rfl⟩
  exact ⟨he, h0⟩
theorem Bx.nil_add (h : Bx w0 w d D l f b) : Bx w0 w d D ((none, []) :: l) f b := by
  obtain ⟨L, S, K, h1, h2, hk, hh⟩ := h
  refine ⟨L, S, K, h1, h2, hk, fun p hp => ?_⟩
  rcases List.mem_cons.1 hp with rfl | hp
  · exact RdX.nil
  · exact hh p hp
end
end Go.Proofs.Ytjdknddnanopaaa
