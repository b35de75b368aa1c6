/-
  Part 3 of the proof.
-/
import Derived.Deep.DeepCutAuto
import Derived.Lib.MinMax
import Derived.Deep.RegionLaw
import Derived.Deep.OwnRows
import Derived.Laws.BytesArg
import Derived.Lib.Bytes
import Derived.Deep.RegionHeld3
import Derived.Test.YtjdknddnanopaaaGreatQ1
namespace Go.Proofs.YtjdknddnanopaaaGreat
open Go.RowKit Tryz
set_option maxRecDepth 100000
set_option maxHeartbeats 16000000
set_option linter.all false
variable {w w' : World} {a b l : List Int} {x : Int} {B base c cap e g j k n : Nat} {A : Option Addr} {xs : List Value} {cs : Array Value} {ki : IntKind}
theorem Rv (c : Int) (w : World) : (Instr.typeAssert (.iface 108 (.int .i64 c)) 57 108 true).run prog w = .ok (.tuple #[.int .i64 c, .bool true]) w := by kernel_rfl
theorem fW (c : Int) (w : World) : (binOp .neq 57 (.iface 108 (.int .i64 c)) .nilIface).run prog w = .ok (.bool true) w := by kernel_rfl
theorem ne_nil (w : World) : (binOp .neq 57 .nilIface .nilIface).run prog w = .ok (.bool false) w := by kernel_rfl
theorem LX (c : Int) (w : World) : (binOp .eql 57 (.iface 108 (.int .i64 c)) .nilIface).run prog w = .ok (.bool false) w := by kernel_rfl
theorem eq_nil (w : World) : (binOp .eql 57 .nilIface .nilIface).run prog w = .ok (.bool true) w := by kernel_rfl
theorem gz (d : Nat) (w : World) : (binOp .eql 28 (.pointer (some ⟨d, 0, none⟩)) (.pointer none)).run prog w = .ok (.bool false) w := by kernel_rfl
theorem Gf (w : World) : Calls prog 55 #[.nilIface] w fun e w' => e = .returned (.int .i64 0) ∧ w = w' := by
 go_enter func55, ntmps55
 go_wp2
 go_ret
 exact ⟨rfl, rfl⟩
theorem N4 (c : Int) (w : World) : Calls prog 55 #[.iface 108 (.int .i64 c)] w fun e w' => e = .returned (.int .i64 c) ∧ w = w' := by
 have h1 := Rv c
 go_enter func55, ntmps55
 go_wp2
 go_ret
 exact ⟨rfl, rfl⟩
theorem N5 (k : Int) (w : World) : Calls prog 55 #[fy k] w fun e w' => e = .returned (.int .i64 k) ∧ w = w' := by
 by_cases h : k = 0
 ·subst h
  exact Gf w
 rw [dJ h]
 exact N4 k w
theorem mH (n lo hi : Int) (w : World) (h1 : lo ≤ n) (h2 : n ≤ hi) : Calls prog 56 #[.int .i64 n, .int .i64 lo, .int .i64 hi] w fun e w' => e = .returned (.bool true) ∧ w = w' := by
 go_enter func56, ntmps56
 go_wp2
 go_ret
 refine ⟨?_, rfl⟩
 first | rfl | (simp; omega)
theorem yh (n lo hi : Int) (w : World) (h : n < lo ∨ hi < n) : Calls prog 56 #[.int .i64 n, .int .i64 lo, .int .i64 hi] w fun e w' => e = .returned (.bool false) ∧ w = w' := by
 by_cases h1 : n < lo
 ·clear h
  go_enter func56, ntmps56
  go_wp2
  go_ret
  refine ⟨?_, rfl⟩
  first | rfl | (simp; omega)
 have h2 : hi < n := oM
 have h3 : lo ≤ n := oM
 clear h h1
 go_enter func56, ntmps56
 go_wp2
 go_ret
 refine ⟨?_, rfl⟩
 first | rfl | (simp; omega)
theorem kD : (prog.info? 5).map (fun i => (i.zero, i.size, i.bytes)) = some (some (.int .u8 0), 1, 1) := by kernel_rfl
theorem mq : (prog.info? 3).map (fun i => (i.zero, i.size, i.bytes)) = some (some (.int .i64 0), 1, 8) := by kernel_rfl
theorem cell_one_new (w : World) (u : Value) (t : TypeId) : ∀ j x, [u][j]? = some x → (w.alloc (.cells #[u] t)).cell? ((⟨w.heap.size, 0, none⟩ : Addr).add j) = some x := I4 w #[u] t [u] rfl
theorem dm (k : IntKind) (a b : List Int) : ag k (a ++ b) = ag k a ++ ag k b := by simp [ag]
theorem aE (k : IntKind) (l : List Int) : (ag k l).length = l.length := by simp [ag]
theorem cj (l : List Int) : (aw l).length = l.length := by simp [aw]
theorem cZ (k : IntKind) (l : List Int) : ∀ u ∈ ag k l, u.oneCell' = true := by
 intro u hu
 simp only [ag, List.mem_map] at hu
 obtain ⟨x, _, rfl⟩ := hu
 rfl
theorem mW (l : List Int) : ∀ u ∈ aw l, u.oneCell' = true := by
 intro u hu
 simp only [aw, List.mem_map] at hu
 obtain ⟨x, _, rfl⟩ := hu
 rfl
theorem IU (a : Addr) (n c : Nat) (w : World) : (binOp .eql 32 (.slice (some a) n c) (.slice none 0 0)).run prog w = .ok (.bool false) w := by kernel_rfl
theorem IV (n c : Nat) (w : World) : (binOp .eql 32 (.slice none n c) (.slice none 0 0)).run prog w = .ok (.bool true) w := by kernel_rfl
theorem IW (a : Addr) (n c : Nat) (w : World) : (binOp .eql 33 (.slice (some a) n c) (.slice none 0 0)).run prog w = .ok (.bool false) w := by kernel_rfl
theorem IX (n c : Nat) (w : World) : (binOp .eql 33 (.slice none n c) (.slice none 0 0)).run prog w = .ok (.bool true) w := by kernel_rfl
theorem kR (A : Option Addr) (n c B : Nat) (b : List Int) (w : World) (hA : Rd w B A (ag .u8 b)) (hB : B ≤ w.heap.size) (hn : b.length = n) (hm : n ≤ 140737488351232) :
 Calls prog 35 #[.slice A n c] w fun e w' => ∃ v', e = .returned v' ∧ w'.ownsRow w.heap.size 5 1 v' n (ag .u8 b) ∧ bW w w' := by
 cases A with
 | none =>
  have hb : b = [] := by
   cases nA : b with
   | nil => rfl
   | cons x r =>
    obtain ⟨_, _, e, _⟩ := hA (by rw [nA]; simp [ag])
    cases e
  subst hb
  simp at hn
  subst hn
  have h1 := IV 0 c
  clear hA
  go_enter func35, ntmps35
  go_wp2
  go_ret
  exact ⟨_, rfl, World.ownsRow_nil .., Below.refl _ _⟩
 | some a =>
  have h1 := IU a n c
  have HA := iD hA
  have zj : Hid ((ag .u8 b).length = n * 1) := by rw [Hid, aE, hn]; omega
  obtain ⟨i5, rR, jc, jb, ja⟩ := info_parts kD
  have nQ : 0 ≤ maxLen := Nat.zero_le _
  clear hA hn
  go_enter func35, ntmps35
  go_wp2_with (at_builtin; refine aM _ rfl _ _ 32 rfl w.heap.size 5 i5 (.int .u8 0) 1 1 underlying32 rR jc jb ja rfl oM _ 0 [] rfl (World.ownsRow_lit w #[] 0 cV nQ rfl) B _ n c (ag .u8 b) rfl (HA.below ((Below.refl w.heap.size w).alloc cV _) hB) zj (cZ _ _) (by unfold maxLen; omega) oM (by simp) ?_)
  intro v' w2 bX hgrow kj
  have fK : Hid (bW w w2) := ((Below.refl w.heap.size w).alloc cV _).grown hgrow (by simp) (fun k hk => by have hk' : some w.heap.size = some k := hk; injection hk'; omega)
  try simp only [Nat.zero_add, List.nil_append] at bX
  have HO := iD bX
  clear bX hgrow kj
  go_wp2
  go_ret
  exact ⟨_, rfl, by simpa using HO.out, fK.out⟩
theorem kS (A : Option Addr) (n c B : Nat) (b : List Int) (w : World) (hA : Rd w B A (aw b)) (hB : B ≤ w.heap.size) (hn : b.length = n) (hm : n ≤ 1000000) :
 Calls prog 104 #[.slice A n c] w fun e w' => ∃ v', e = .returned v' ∧ w'.ownsRow w.heap.size 3 1 v' n (aw b) ∧ bW w w' := by
 cases A with
 | none =>
  have hb : b = [] := by
   cases nA : b with
   | nil => rfl
   | cons x r =>
    obtain ⟨_, _, e, _⟩ := hA (by rw [nA]; simp [aw])
    cases e
  subst hb
  simp at hn
  subst hn
  have h1 := IX 0 c
  clear hA
  go_enter func104, ntmps104
  go_wp2
  go_ret
  exact ⟨_, rfl, World.ownsRow_nil .., Below.refl _ _⟩
 | some a =>
  have h1 := IW a n c
  have HA := iD hA
  have zj : Hid ((aw b).length = n * 1) := by rw [Hid, cj, hn]; omega
  obtain ⟨i3, vU, kE, jN, lh⟩ := info_parts mq
  have nQ : 0 ≤ maxLen := Nat.zero_le _
  clear hA hn
  go_enter func104, ntmps104
  go_wp2_with (at_builtin; refine aM _ rfl _ _ 33 rfl w.heap.size 3 i3 (.int .i64 0) 1 8 underlying33 vU kE jN lh rfl oM _ 0 [] rfl (World.ownsRow_lit w #[] 0 cV nQ rfl) B _ n c (aw b) rfl (HA.below ((Below.refl w.heap.size w).alloc cV _) hB) zj (mW _) (by unfold maxLen; omega) oM (by simp) ?_)
  intro v' w2 bX hgrow kj
  have fK : Hid (bW w w2) := ((Below.refl w.heap.size w).alloc cV _).grown hgrow (by simp) (fun k hk => by have hk' : some w.heap.size = some k := hk; injection hk'; omega)
  try simp only [Nat.zero_add, List.nil_append] at bX
  have HO := iD bX
  clear bX hgrow kj
  go_wp2
  go_ret
  exact ⟨_, rfl, by simpa using HO.out, fK.out⟩
section
variable {w0 w : World} {L : Lc} {f : Fl}
theorem bB.lE (h : bB w0 w L f) : f.img.length ≤ 65536 := by
 rw [h.ok.len]
 have h1 := h.ok.b2
 have h2 := h.ok.p2
 have := Nat.mul_le_mul h1 h2
 omega
theorem wS (h : bB w0 w L f) : Calls prog 94 #[.pointer (some ⟨L.d, 0, none⟩)] w fun e w' => e = .returned (.int .i64 (f.aq.length : Nat)) ∧ w = w' := by
 have h1 := gz L.d
 have c2 := h.c2
 generalize f.aq.length = n at *
 clear h
 go_enter func94, ntmps94
 go_wp2
 go_ret
 exact ⟨rfl, rfl⟩
theorem iq (h : bB w0 w L f) : Calls prog 61 #[.pointer (some ⟨L.d, 0, none⟩)] w fun e w' => e = .returned (.int .i64 (f.pg : Nat)) ∧ w = w' := by
 have h1 := gz L.d
 have c0 := h.c0
 clear h
 go_enter func61, ntmps61
 go_wp2
 go_ret
 exact ⟨rfl, rfl⟩
theorem nZ (h : bB w0 w L f) : Calls prog 93 #[.pointer (some ⟨L.d, 0, none⟩)] w fun e w' => e = .returned (.bool f.aF) ∧ w = w' := by
 have h1 := gz L.d
 have c3 := h.c3
 clear h
 go_enter func93, ntmps93
 go_wp2
 go_ret
 exact ⟨rfl, rfl⟩
theorem Ii (h : bB w0 w L f) : Calls prog 13 #[.pointer (some ⟨L.d, 0, none⟩)] w fun e w' => ∃ v', e = .returned v' ∧ w'.ownsRow w.heap.size 5 1 v' f.img.length (ag .u8 f.img) ∧ bW w w' := by
 have h1 := gz L.d
 have c1 := h.c1
 have hl := h.lE
 obtain ⟨A, c, hv, _, _, hr⟩ := bL h.oi
 injection hv with e1 e2 e3
 subst e1
 have HC := iD (kR (some ⟨L.gi, 0, none⟩) f.img.length L.ci w.heap.size f.img w hr cV rfl oM)
 generalize f.img.length = n at *
 clear h hr e3
 go_enter func13, ntmps13
 go_wp2_with (fail)
 refine HC.mono ?_
 rintro e w1 ⟨v', rfl, ho, hb⟩
 have HO := iD ho
 have HB := iD hb
 clear ho hb
 go_wp2
 go_ret
 exact ⟨v', rfl, HO, HB⟩
theorem Kf (h : bB w0 w L f) : Calls prog 72 #[.pointer (some ⟨L.d, 0, none⟩)] w fun e w' => ∃ v', e = .returned v' ∧ w'.ownsRow w.heap.size 3 1 v' f.aq.length (aw f.aq) ∧ bW w w' := by
 have h1 := gz L.d
 have c2 := h.c2
 have hl := h.ok.b2
 obtain ⟨A, c, hv, _, _, hr⟩ := bL h.ow
 injection hv with e1 e2 e3
 subst e1
 have HC := iD (kS (some ⟨L.gw, 0, none⟩) f.aq.length L.cw w.heap.size f.aq w hr cV rfl oM)
 generalize f.aq.length = n at *
 clear h hr e3
 go_enter func72, ntmps72
 go_wp2_with (fail)
 refine HC.mono ?_
 rintro e w1 ⟨v', rfl, ho, hb⟩
 have HO := iD ho
 have HB := iD hb
 clear ho hb
 go_wp2
 go_ret
 exact ⟨v', rfl, HO, HB⟩
theorem GG (h : bB w0 w L f) : Calls prog 95 #[.pointer (some ⟨L.d, 0, none⟩)] w fun e w' => e = .returned (.bool (dx f).2) ∧ bB w0 w' L (dx f).1 ∧ cE L w w' ∧ w'.heap.size = w.heap.size := by
 have c4 := h.c4
 have c3 := h.c3
 have f3 := h.fz 3
 have f4 := h.fz 4
 have Cr := h.ok.LK
 have Nm := h.ok.LJ
 by_cases h0 : f.be = 0
 ·have HC : Hid (dx f = ({ f with aF := true }, true)) := by unfold dx; rw [Hid, iP h0]
  have HD := iD (h.dn true)
  rw [h0] at c4
  clear h h0
  go_enter func95, ntmps95
  go_wp2
  go_ret
  rw [HC]
  exact ⟨rfl, HD.1, HD.2, by simp [World.setCell]⟩
 by_cases hp : 0 < f.be
 ·have HC : Hid (dx f = ({ f with be := f.be - 1 }, false)) := by unfold dx; rw [Hid, iN h0, iP hp]
  have HD := iD (h.fu (f.be - 1) oM oM)
  clear h h0
  go_enter func95, ntmps95
  go_wp2
  go_ret
  rw [HC]
  exact ⟨rfl, HD.1, HD.2, by simp [World.setCell]⟩
 have HC : Hid (dx f = (f, false)) := by unfold dx; rw [Hid, iN h0, iN hp]
 have H := iD h
 have h0' : (f.be == 0) = false := by simpa using h0
 clear h h0
 go_enter func95, ntmps95
 go_wp2
 go_ret
 rw [HC]
 exact ⟨rfl, H, cE.refl _ _, rfl⟩
theorem BO (h : bB w0 w L f) (i : Nat) (hi : i < 100000) : Calls prog 96 #[.pointer (some ⟨L.d, 0, none⟩), .int .i64 i] w fun e w' => e = .returned (.int .u8 (dj f.az i)) ∧ w = w' := by
 have c5 := h.c5
 have hpc := h.pc
 have Gp := h.pm
 unfold maxLen at Gp
 by_cases aW : i < f.az.length
 ·obtain ⟨y, hy⟩ := getElem?_of_lt aW
  obtain ⟨b, off, hA, _, d0⟩ := h.pk.rd.mo hy
  have HP : Hid (dj f.az i = y) := by unfold dj; rw [Hid, hy]; rfl
  rw [hA] at c5
  generalize f.az.length = n at *
  clear h hy hA
  go_enter func96, ntmps96
  go_wp2
  go_ret
  exact ⟨by rw [HP]; rfl, rfl⟩
 have HP : Hid (dj f.az i = 0) := by unfold dj; rw [Hid, List.getElem?_eq_none oM]; rfl
 generalize f.az.length = n at *
 clear h
 go_enter func96, ntmps96
 go_wp2
 go_ret
 exact ⟨by rw [HP]; rfl, rfl⟩
def Fg (L : Lc) (f : Fl) (page : Int) : Value := if lZ f page = 0 then .tuple #[.slice (some ⟨L.gi, 64 * page.toNat, none⟩) 64 (L.ci - 64 * page.toNat), .nilIface] else .tuple #[.slice none 0 0, fy (lZ f page)]
end
section
variable {w0 w : World} {L : Lc} {f : Fl}
theorem bB.ci (h : bB w0 w L f) : f.img.length ≤ L.ci ∧ L.ci ≤ maxLen := by
 obtain ⟨A, c, hv, h1, h2, hr⟩ := bL h.oi
 injection hv with e1 e2 e3
 subst e3
 exact ⟨h1, h2⟩
theorem bB.cw (h : bB w0 w L f) : f.aq.length ≤ L.cw ∧ L.cw ≤ maxLen := by
 obtain ⟨A, c, hv, h1, h2, hr⟩ := bL h.ow
 injection hv with e1 e2 e3
 subst e3
 exact ⟨h1, h2⟩
theorem Mt (h : bB w0 w L f) (page : Int) : Calls prog 97 #[.pointer (some ⟨L.d, 0, none⟩), .int .i64 page] w fun e w' => e = .returned (Fg L f page) ∧ ∃ q, w' = w.drewN q := by
 have h1 := gz L.d
 have c0 := h.c0
 have c1 := h.c1
 have c2 := h.c2
 have c3 := h.c3
 by_cases hd : f.aF = true
 ·have HV : Hid (Fg L f page = .tuple #[.slice none 0 0, .iface 108 (.int .i64 20)]) := by unfold Fg lZ; simp [Hid, hd, fy]
  rw [hd] at c3
  clear h hd
  go_enter func97, ntmps97
  go_wp2
  go_ret2
  exact ⟨by rw [HV]; rfl, 0, rfl⟩
 have kX : f.aF = false := by simpa using hd
 rw [kX] at c3
 obtain ⟨M, hM⟩ := ex (f.aq.length * f.pg)
 have zW := h.ok.b2
 have xN := h.ok.p2
 have yQ := h.ok.b1
 have sO := h.ok.p1
 have e1 : ((f.aq.length : Nat) : Int) * (f.pg : Int) = (M : Int) := by rw [← hM]; push_cast; rfl
 have Ad : 1 ≤ M := by rw [← hM]; exact Nat.mul_le_mul yQ sO
 have xP : M ≤ 1024 := by rw [← hM]; exact Nat.mul_le_mul zW xN
 have hlen : f.img.length = M * 64 := by rw [h.ok.len, hM]
 have Wo := h.ci
 unfold maxLen at Wo
 obtain ⟨Wn, aaA⟩ := Wo
 by_cases ny : 0 ≤ page ∧ page ≤ (M : Int) - 1
 ·obtain ⟨pn, rfl⟩ := Int.eq_ofNat_of_zero_le ny.1
  have zU : pn < M := oM
  have HV : Hid (Fg L f pn = .tuple #[.slice (some ⟨L.gi, 64 * pn, none⟩) 64 (L.ci - 64 * pn), .nilIface]) := by
   have h0 : lZ f pn = 0 := by unfold lZ; rw [iN hd, hM, iN oM]
   show _ = _
   unfold Fg
   rw [iP h0]
   rfl
  have HW : Hid (∀ wx, Calls prog 56 #[.int .i64 pn, .int .i64 0, .int .i64 ((M : Int) - 1)] wx fun e w' => e = .returned (.bool true) ∧ w' = wx) := fun wx => (mH pn 0 ((M : Int) - 1) wx ny.1 ny.2).mono fun _ _ ⟨a, b⟩ => ⟨a, b.symm⟩
  rw [hlen] at c1
  generalize f.aq.length = n at *
  generalize f.pg = p at *
  have k1 : (pn : Int) * 64 ≤ ((pn : Int) + 1) * 64 := oM
  have k2 : ((pn : Int) + 1) * 64 ≤ (L.ci : Int) := oM
  have k3 : (0 : Int) ≤ (pn : Int) * 64 := oM
  have k4 : ((pn : Int) * 64).toNat = 64 * pn := oM
  have k5 : (((pn : Int) + 1) * 64).toNat = 64 * pn + 64 := oM
  have k6 : ¬ (L.ci = 64 * pn) := oM
  clear h hd kX ny hM hlen
  go_enter func97, ntmps97
  go_upto_region 5 with (fail)
  go_quiet ((go_at_call 56; with_reducible exact Calls.quiet_of_same (HW.out _)))
  go_wp2
  go_ret2
  exact ⟨by rw [HV]; rfl, _, rfl⟩
 have HV : Hid (Fg L f page = .tuple #[.slice none 0 0, .iface 108 (.int .i64 10)]) := by
  have h0 : lZ f page = 10 := by unfold lZ; rw [iN hd, hM, iP oM]
  unfold Fg
  simp [Hid, h0, fy]
 have HW : Hid (∀ wx, Calls prog 56 #[.int .i64 page, .int .i64 0, .int .i64 ((M : Int) - 1)] wx fun e w' => e = .returned (.bool false) ∧ w' = wx) := fun wx => (yh page 0 ((M : Int) - 1) wx oM).mono fun _ _ ⟨a, b⟩ => ⟨a, b.symm⟩
 generalize f.aq.length = n at *
 generalize f.pg = p at *
 clear h hd kX ny hM hlen c1
 go_enter func97, ntmps97
 go_upto_region 5 with (fail)
 go_quiet ((go_at_call 56; with_reducible exact Calls.quiet_of_same (HW.out _)))
 go_wp2
 go_ret2
 exact ⟨by rw [HV]; rfl, _, rfl⟩
end
theorem Rd.part {bb off : Nat} {k : IntKind} (h : Rd w B (some ⟨bb, off, none⟩) (ag k b)) (i n : Nat) : Rd w B (some ⟨bb, off + i, none⟩) (ag k ((b.drop i).take n)) := by
 intro fR
 have hb : ag k b ≠ [] := by
  intro e
  apply fR
  have : b = [] := by simpa [ag] using e
  subst this
  simp [ag]
 obtain ⟨b', sI, e, aW, hc⟩ := h hb
 obtain ⟨rfl, rfl⟩ : bb = b' ∧ off = sI := by simpa using e
 refine ⟨bb, off + i, rfl, aW, fun j u hu => ?_⟩
 rw [Nat.add_assoc]
 refine hc _ _ ?_
 simp only [ag, List.map_take, List.map_drop, List.getElem?_take] at hu ⊢
 split at hu
 ·rw [List.getElem?_drop] at hu
  exact hu
 cases hu
theorem ky {size : Nat} (h : w.ownsRow base e size (.slice A n c) n xs) : Rd w w.heap.size A xs := by
 obtain ⟨A', c', hv, _, _, hr⟩ := bL h
 injection hv with e1 e2 e3
 subst e1
 exact hr
section
variable {w0 w : World} {L : Lc} {f : Fl}
theorem bB.BU (h : bB w0 w L f) {page : Int} (h0 : lZ f page = 0) : (aB f page.toNat).length = 64 ∧ 64 * page.toNat + 64 ≤ f.img.length := by
 obtain ⟨_, a1, a2⟩ := rB h0
 have hl : 64 * page.toNat + 64 ≤ f.img.length := by
  rw [h.ok.len]
  have : page.toNat + 1 ≤ f.aq.length * f.pg := oM
  omega
 refine ⟨?_, hl⟩
 unfold aB
 rw [List.length_take, List.length_drop]
 omega
theorem vD (h : bB w0 w L f) (page : Int) : Calls prog 108 #[.pointer (some ⟨L.d, 0, none⟩), .int .i64 page] w fun e w' => ∃ v', e = .returned (.tuple #[v', fy (ft f page).2]) ∧ w'.ownsRow w.heap.size 5 1 v' (ft f page).1.length (ag .u8 (ft f page).1) ∧ bW w w' := by
 have HA := iD (Mt h page)
 by_cases h0 : lZ f page = 0
 ·have HV : Hid (Fg L f page = .tuple #[.slice (some ⟨L.gi, 64 * page.toNat, none⟩) 64 (L.ci - 64 * page.toNat), .nilIface]) := by unfold Fg; rw [Hid, iP h0]
  have HR : Hid (ft f page = (aB f page.toNat, 0)) := by unfold ft; rw [Hid, iN (by simp [h0])]
  obtain ⟨hl, _⟩ := h.BU h0
  have VM : Rd w w.heap.size (some ⟨L.gi, 64 * page.toNat, none⟩) (ag .u8 (aB f page.toNat)) := by
   have := (ky h.oi).part (64 * page.toNat) 64
   rw [Nat.zero_add] at this
   exact this
  have J3 := iD VM
  have HL := iD hl
  clear h h0 hl VM
  generalize aB f page.toNat = b at *
  go_enter func108, ntmps108
  go_wp2_with (fail)
  refine HA.mono ?_
  rintro e w1 ⟨rfl, q, rfl⟩
  rw [HV]
  go_wp2_with (fail)
  refine (kR _ 64 _ w.heap.size b (w.drewN q) (J3.below (Below.drewN bV q) cV) cV HL oM).mono ?_
  rintro e w2 ⟨v', rfl, ho, hb⟩
  have HO := iD ho
  have HB : Hid (bW w w2) := (Below.drewN (Below.refl w.heap.size w) q).trans hb
  clear ho hb
  go_wp2
  go_ret2
  refine ⟨v', by rw [HR]; rfl, ?_, HB⟩
  rw [HR, HL]
  exact HO
 have HV : Hid (Fg L f page = .tuple #[.slice none 0 0, fy (lZ f page)]) := by unfold Fg; rw [Hid, iN h0]
 have HR : Hid (ft f page = ([], lZ f page)) := by unfold ft; rw [Hid, iP h0]
 have HE : Hid (Rd w w.heap.size none (ag .u8 [])) := fun h => absurd rfl h
 clear h h0
 generalize lZ f page = k at *
 generalize hek : fy k = ek at *
 have HEK := iD hek
 clear hek
 go_enter func108, ntmps108
 go_wp2_with (fail)
 refine HA.mono ?_
 rintro e w1 ⟨rfl, q, rfl⟩
 rw [HV]
 go_wp2_with (fail)
 refine (kR none 0 0 w.heap.size [] (w.drewN q) (HE.below (Below.drewN bV q) cV) cV rfl oM).mono ?_
 rintro e w2 ⟨v', rfl, ho, hb⟩
 have HO := iD ho
 have HB : Hid (bW w w2) := (Below.drewN (Below.refl w.heap.size w) q).trans hb
 clear ho hb
 go_wp2
 go_ret2
 refine ⟨v', by rw [HR, HEK]; rfl, ?_, HB⟩
 rw [HR]
 exact HO
end
theorem lD (img : List Int) (a : Nat) : lay img a [] = img := by simp [lay]
theorem jA {img : List Int} {a i : Nat} (ha : a + b.length ≤ img.length) (hx : b[i]? = some x) : (lay img a (b.take i)).set (a + i) x = lay img a (b.take (i + 1)) := by
 have hi : i < b.length := (List.getElem?_eq_some_iff.1 hx).1
 have l1 : (b.take i).length = i := by rw [List.length_take]; omega
 have l2 : (b.take (i + 1)).length = i + 1 := by rw [List.length_take]; omega
 apply List.ext_getElem?
 intro k
 rw [mV _ _ _ oM, List.getElem?_set, cL _ _ _ oM, mV _ _ _ oM, l1, l2]
 by_cases h1 : a + i = k
 ·subst h1
  rw [iP rfl, iP oM, iP oM, List.getElem?_take, iP oM, show a + i - a = i by omega, hx]
 rw [iN h1]
 by_cases h2 : a ≤ k ∧ k < a + i
 ·rw [iP h2, iP oM, List.getElem?_take, iP oM, List.getElem?_take, iP oM]
 rw [iN h2, iN oM]
theorem lJ (hx : b[j]? = some x) (h : ch (b.take j) = true) (he : x = 255) : ch (b.take (j + 1)) = true := by
 rw [bA b j x hx]
 unfold ch at h ⊢
 rw [List.all_append, h, he]
 rfl
theorem oQ (hx : b[j]? = some x) (he : x ≠ 255) : ch b = false := by
 unfold ch
 rw [List.all_eq_false]
 exact ⟨x, List.mem_of_getElem? hx, by simpa using he⟩
section
variable {w0 w : World} {L : Lc} {f : Fl}
theorem bB.byte (h : bB w0 w L f) (hx : f.img[k]? = some x) : w.cell? ⟨L.gi, k, none⟩ = some (.int .u8 x) := by
 have := (List.getElem?_eq_some_iff.1 hx).1
 rw [h.oi.cellAt k oM]
 simp [ag, hx]
theorem bB.Zd (h : bB w0 w L f) (k : Nat) : w.frozen? ⟨L.gi, k, none⟩ = false := h.oi.frozenAt _
theorem bB.num (h : bB w0 w L f) (hx : f.aq[k]? = some x) : w.cell? ⟨L.gw, k, none⟩ = some (.int .i64 x) := by
 have := (List.getElem?_eq_some_iff.1 hx).1
 rw [h.ow.cellAt k oM]
 simp [aw, hx]
theorem bB.nfz (h : bB w0 w L f) (k : Nat) : w.frozen? ⟨L.gw, k, none⟩ = false := h.ow.frozenAt _
theorem nI (h : bB w0 w L f) (page : Int) (A : Option Addr) (m c : Nat) (b : List Int) (hA : gQ L w A (ag .u8 b)) (hm : b.length = m) (hc : m ≤ c) (qV : c ≤ maxLen) (hb : Bytes b) :
 Calls prog 62 #[.pointer (some ⟨L.d, 0, none⟩), .int .i64 page, .slice A m c] w fun e w' => e = .returned (fy (bz f page b).2) ∧ bB w0 w' L (bz f page b).1 ∧ cE L w w' := by
 have GZ := iD (Mt h page)
 have g1 := ne_nil
 have g2 := fW
 unfold maxLen at qV
 obtain ⟨Q, hQ⟩ := ex (bz f page b)
 rw [hQ]
 have HM := iD hm
 have ZF := iD hA
 have Dm := iD hb
 unfold bz at hQ
 by_cases h0 : lZ f page = 0
 case neg =>
  have HV : Hid (Fg L f page = .tuple #[.slice none 0 0, fy (lZ f page)]) := by unfold Fg; rw [Hid, iN h0]
  rw [iP h0] at hQ
  subst hQ
  have HE := iD (dJ h0)
  have H := iD h
  clear h h0 hA hm hb
  generalize lZ f page = k at *
  go_enter func62, ntmps62
  go_wp2_with (fail)
  refine GZ.mono ?_
  rintro e w1 ⟨rfl, q, rfl⟩
  rw [HV, HE]
  have H1 := iD (H.drewN q)
  go_wp2
  go_ret
  exact ⟨by rw [HE]; rfl, H1, cE.ak (Below.drewN bV q)⟩
 rw [iN (by simp [h0])] at hQ
 have HV : Hid (Fg L f page = .tuple #[.slice (some ⟨L.gi, 64 * page.toNat, none⟩) 64 (L.ci - 64 * page.toNat), .nilIface]) := by unfold Fg; rw [Hid, iP h0]
 obtain ⟨fQ, Ud⟩ := h.BU h0
 have ua := h.lE
 obtain ⟨a, ha⟩ := ex (64 * page.toNat)
 have jk : Hid (∀ j, j < 64 → (aB f page.toNat)[j]? = f.img[a + j]?) := by
  intro j hj
  unfold aB
  rw [List.getElem?_take, iP hj, List.getElem?_drop, ha]
 rw [ha] at hQ HV Ud
 generalize aB f page.toNat = pg at *
 rw [hm] at hQ
 by_cases hlen : m = 64
 case neg =>
  rw [iP hlen] at hQ
  subst hQ
  have H := iD h
  have hlen' : ((m : Int) != 64) = true := by simp; omega
  clear h h0 hA hm hb hlen
  go_enter func62, ntmps62
  go_wp2_with (fail)
  refine GZ.mono ?_
  rintro e w1 ⟨rfl, q, rfl⟩
  rw [HV]
  have H1 := iD (H.drewN q)
  go_wp2
  go_ret
  exact ⟨rfl, H1, cE.ak (Below.drewN bV q)⟩
 subst hlen
 rw [iN (by simp)] at hQ
 have HQ := iD hQ
 have H := iD h
 have nj := iD fQ
 clear h h0 hA hm hb hQ fQ ha
 go_enter func62, ntmps62
 go_wp2_with (fail)
 refine GZ.mono ?_
 rintro e w1 ⟨rfl, q, rfl⟩
 rw [HV]
 have H1 := iD (H.drewN q)
 have iH : Hid (cE L w (w.drewN q)) := cE.ak (Below.drewN bV q)
 have Yu := iD (ZF.only iH)
 generalize w.drewN q = w1 at *
 clear H ZF GZ
 go_wp2
 go_loopw [29] (fun i wr => ∃ j : Nat, j ≤ 64 ∧ i = .int .i64 j ∧ ch (pg.take j) = true ∧ w1 = wr) (fun i _ => 64 - (intOf i).toNat)
 case atStart => exact ⟨0, oM, rfl, by simp [ch], rfl⟩
 case round =>
  obtain ⟨j, hj, rfl, cB, rfl⟩ := hrel
  have uM := iD cB
  clear cB
  by_cases aW : j < 64
  ·obtain ⟨x, hx⟩ := getElem?_of_lt (l := pg) (k := j) (by rw [nj]; exact aW)
   have yL : f.img[a + j]? = some x := by rw [← jk j aW]; exact hx
   have d0 := H1.byte yL
   by_cases he : x = 255
   ·have TH := iD (lJ hx uM he)
    have he' : (x != 255) = false := by simp [he]
    clear hx yL he
    go_wp2
    go_roundw
    case rel => exact ⟨j + 1, oM, by go_num, TH, by first | rfl | trivial⟩
    case measure => simp [intOf]; omega
   have Bj := iD (oQ hx he)
   have he' : (x != 255) = true := by simpa using he
   have hq := HQ.out
   rw [iP Bj.out] at hq
   subst hq
   clear hx yL he
   go_wp2
   go_ret
   exact ⟨rfl, H1, iH⟩
  have Cn : j = 64 := oM
  subst Cn
  have Bj : Hid (ch pg = true) := by
   have h1 := uM.out
   rw [List.take_of_length_le (by rw [nj]; exact Nat.le_refl _)] at h1
   exact h1
  have hq := HQ.out
  rw [iN (by simp [Bj.out])] at hq
  have Jr := iD hq
  have AO := iD (GG H1)
  obtain ⟨s1, s2, s3, s4⟩ := dW f
  have rU := iD s2
  have zg := iD s4
  obtain ⟨⟨g, kK⟩, hg⟩ := ex (dx f)
  rw [hg] at AO Jr rU zg
  simp only at AO Jr rU zg
  obtain ⟨b', cU⟩ := ex (if kK = true then eK b f.az else b)
  have cB : b'.length = 64 := by rw [← cU]; split; rw [db, HM]; exact HM
  have nA : Bytes b' := by
   rw [← cU]
   split
   ·exact ku Dm H1.ok.yz
   exact Dm
  have HB' := iD cU
  have HBL' := iD cB
  have ur := iD nA
  clear s1 s2 s3 s4 hg cU cB nA hq aW uM
  go_wp2_with (fail)
  refine AO.mono ?_
  rintro e w2 ⟨rfl, hF, ho, _⟩
  have HF := iD hF
  have mA : Hid (cE L w w2) := iH.trans ho
  have abz := iD (Yu.only ho)
  clear hF ho Yu H1 AO
  go_wp2
  go_loopw [41] (fun i wr => ∃ j : Nat, j ≤ 64 ∧ i = .int .i64 j ∧ bB w0 wr L { g with img := lay f.img a (b'.take j) } ∧ cE L w wr ∧ cE L w2 wr) (fun i _ => 64 - (intOf i).toNat)
  case atStart =>
   refine ⟨0, oM, rfl, ?_, mA, cE.refl _ _⟩
   rw [List.take_zero, lD, ← rU]
   exact HF
  case round =>
   obtain ⟨j, hj, rfl, hF, ho, lR⟩ := hrel
   have xd := iD hF
   have xb := iD ho
   have Ts := iD lR
   clear hF ho lR
   by_cases aW : j < 64
   ·obtain ⟨x, hx⟩ := getElem?_of_lt (l := b) (k := j) (by rw [HM]; exact aW)
    obtain ⟨bb, oo, hA, JS, d0⟩ := (abz.only Ts).rd.mo hx
    subst hA
    obtain ⟨y, hy⟩ := getElem?_of_lt (l := b') (k := j) (by rw [HBL']; exact aW)
    obtain ⟨z, hz⟩ := getElem?_of_lt (l := lay f.img a (b'.take j)) (k := a + j) (by rw [cL _ _ _ (by rw [List.length_take, HBL']; omega)]; omega)
    have c0 := xd.byte hz
    have c1 := xd.Zd (a + j)
    obtain ⟨n1, n2⟩ := xd.img (a + j) y (ur y (List.mem_of_getElem? hy))
    rw [jA (by rw [HBL']; exact Ud) hy] at n1
    have xZ := iD n1
    have uJ := iD n2
    cases gU : kK with
    | false =>
     have RT : x = y := by
      have h1 := HB'.out
      rw [gU, iN (by simp)] at h1
      rw [← h1, hx] at hy
      exact Option.some.inj hy
     subst RT
     clear hx hy hz n1 n2
     go_wp2
     go_roundw
     case rel => exact ⟨j + 1, oM, by go_num, xZ, xb.trans uJ, Ts.trans uJ⟩
     case measure => simp [intOf]; omega
    | true =>
     have Ti : Hid (bits .or .u8 x (dj f.az j) = y) := by
      have h1 := HB'.out
      rw [gU, iP rfl] at h1
      rw [← h1, eJ, hx] at hy
      show _ = _
      simpa [nv] using hy
     have uj := iD (BO xd j oM)
     simp only [zg.out] at uj
     clear hx hy hz n1 n2
     go_wp2_with (fail)
     refine uj.mono ?_
     rintro e w3 ⟨rfl, rfl⟩
     have RT := Ti.out
     generalize dj f.az j = pk at *
     go_wp2
     go_roundw
     case rel => exact ⟨j + 1, oM, by go_num, xZ, xb.trans uJ, Ts.trans uJ⟩
     case measure => simp [intOf]; omega
   have Cn : j = 64 := oM
   subst Cn
   have eO := xd.out
   rw [List.take_of_length_le (by rw [HBL']; exact Nat.le_refl _), ← HB'] at eO
   have hq := Jr.out
   cases gU : kK with
   | false =>
    rw [gU, iN (by simp)] at eO hq
    subst hq
    have ox := iD eO
    clear eO
    go_wp2
    go_ret
    exact ⟨rfl, ox, xb⟩
   | true =>
    rw [gU, iP rfl] at eO hq
    subst hq
    have ox := iD eO
    clear eO
    go_wp2
    go_ret
    exact ⟨rfl, ox, xb⟩
end
section
variable {w0 w : World} {L : Lc} {f : Fl}
theorem ta (h : bB w0 w L f) (block : Int) :
 Calls prog 60 #[.pointer (some ⟨L.d, 0, none⟩), .int .i64 block] w fun e w' => e = .returned (fy (aT f block).2) ∧ bB w0 w' L (aT f block).1 ∧ cE L w w' := by
 have g1 := gz L.d
 have c0 := h.c0
 have c1 := h.c1
 have c2 := h.c2
 have c3 := h.c3
 obtain ⟨Q, hQ⟩ := ex (aT f block)
 rw [hQ]
 unfold aT at hQ
 by_cases hd : f.aF = true
 ·rw [iP hd] at hQ
  subst hQ
  have H := iD h
  rw [hd] at c3
  clear h hd
  go_enter func60, ntmps60
  go_wp2
  go_ret
  exact ⟨rfl, H, cE.refl _ _⟩
 rw [iN hd] at hQ
 have kX : f.aF = false := by simpa using hd
 rw [kX] at c3
 obtain ⟨n, hn⟩ := ex f.aq.length
 have zW := h.ok.b2
 have yQ := h.ok.b1
 have xN := h.ok.p2
 have sO := h.ok.p1
 rw [hn] at hQ c2 zW yQ
 by_cases hout : block < 0 ∨ (n : Int) ≤ block
 ·rw [iP hout] at hQ
  subst hQ
  have H := iD h
  clear h hd kX hn
  go_enter func60, ntmps60
  go_wp2_with (fail)
  refine (yh block 0 ((n : Int) - 1) w oM).mono ?_
  rintro e w1 ⟨rfl, rfl⟩
  go_wp2
  go_ret
  exact ⟨rfl, H, cE.refl _ _⟩
 rw [iN hout] at hQ
 obtain ⟨bn, rfl⟩ := Int.eq_ofNat_of_zero_le (by omega : 0 ≤ block)
 have hbn : bn < n := oM
 simp only [Int.toNat_natCast] at hQ
 obtain ⟨N, hN⟩ := ex (64 * f.pg)
 obtain ⟨a, ha⟩ := ex (N * bn)
 rw [hN, ha] at hQ
 have JV : 64 ≤ N := oM
 have LD : N ≤ 1024 := oM
 have Wy : a + N ≤ f.img.length := by
  rw [h.ok.len, hn]
  have h1 : N * bn + N ≤ N * n := by
   have := Nat.mul_le_mul_left N (by omega : bn + 1 ≤ n)
   rw [Nat.mul_add, Nat.mul_one] at this
   exact this
  have h2 : n * f.pg * 64 = N * n := by rw [← hN, Nat.mul_comm (64 * f.pg), Nat.mul_assoc, Nat.mul_comm f.pg 64]
  omega
 have ua := h.lE
 have Wo := h.ci
 unfold maxLen at Wo
 obtain ⟨Wn, aaA⟩ := Wo
 have e1 : (f.pg : Int) * 64 = (N : Int) := oM
 have e2 : (bn : Int) * (N : Int) = (a : Int) := by rw [← ha]; push_cast; exact Int.mul_comm _ _
 have e3 : ((bn : Int) + 1) * (N : Int) = (a : Int) + N := by rw [Int.add_mul, e2, Int.one_mul]
 have abG : bn < 64 := oM
 have k1 : (a : Int) ≤ (a : Int) + N := oM
 have k2 : (a : Int) + N ≤ (L.ci : Int) := oM
 have k4 : ((a : Int) + N).toNat = a + N := oM
 have k6 : ¬ (L.ci = a) := oM
 have acg : (0 : Int) ≤ (bn : Int) := oM
 have acf : (bn : Int) < (n : Int) := oM
 have AO := iD (GG h)
 obtain ⟨s1, s2, s3, s4⟩ := dW f
 have rU := iD s2
 have Pz := iD s3
 have zg := iD s4
 obtain ⟨⟨g, kK⟩, hg⟩ := ex (dx f)
 rw [hg] at AO hQ rU Pz zg
 simp only at AO hQ rU Pz zg
 obtain ⟨b', cU⟩ := ex (if kK = true then eK ((f.img.drop a).take N) f.az else List.replicate N 255)
 have cB : b'.length = N := by
  rw [← cU]
  split
  ·rw [db, List.length_take, List.length_drop]; omega
  rw [List.length_replicate]
 have nA : Bytes b' := by
  rw [← cU]
  split
  ·exact ku (fun x hx => h.ok.wQ x (List.mem_of_mem_drop (List.mem_of_mem_take hx))) h.ok.yz
  intro x hx
  rw [List.mem_replicate] at hx
  omega
 have HB' := iD cU
 have HBL' := iD cB
 have ur := iD nA
 have HQ := iD hQ
 obtain ⟨u, hu⟩ := getElem?_of_lt (l := f.aq) (k := bn) (by rw [hn]; exact hbn)
 have HU := iD hu
 have HWN := iD hn
 obtain ⟨il, Sq⟩ := ex f.img.length
 have uY := iD Sq
 rw [Sq] at Wy ua Wn c1
 clear Sq
 clear s1 s2 s3 s4 hg cU cB nA hQ hu hn ha hN h hout hd kX
 go_enter func60, ntmps60
 go_wp2_with (fail)
 refine (mH bn 0 ((n : Int) - 1) w oM oM).mono ?_
 rintro e w1 ⟨rfl, rfl⟩
 go_wp2_with (fail)
 refine AO.mono ?_
 rintro e w2 ⟨rfl, hF, ho, _⟩
 have HF := iD hF
 have mA := iD ho
 have d2 := hF.c2
 have dn : w2.cell? ⟨L.gw, bn, none⟩ = some (.int .i64 u) := hF.num (by rw [Pz]; exact HU)
 have df := hF.nfz bn
 rw [Pz, HWN] at d2
 clear hF ho AO c0 c1 c2 c3
 go_upto_region 11 with (fail)
 obtain ⟨x1, x2⟩ := HF.wr bn (wrap64 (u + 1))
 have Nx : Hid (g.aq.set bn (wrap64 (u + 1)) = fa f.aq bn) := by
  show _ = _
  unfold fa
  rw [Pz, HU]
  rfl
 rw [Nx] at x1
 have DC := iD x1
 have rZ : Hid (cE L w _) := mA.trans x2
 generalize w2.setCell ⟨L.gw, bn, none⟩ (.int .i64 (wrap64 (u + 1))) = w3 at *
 clear x1 x2 dn df d2 HF mA
 go_wp2
 go_loopw [57] (fun i wr => ∃ j : Nat, j ≤ N ∧ i = .int .i64 j ∧ bB w0 wr L { g with img := lay f.img a (b'.take j), aq := fa f.aq bn } ∧ cE L w wr) (fun i _ => N - (intOf i).toNat)
 case atStart =>
  refine ⟨0, oM, rfl, ?_, rZ⟩
  rw [List.take_zero, lD, ← rU]
  exact DC
 case round =>
  obtain ⟨j, hj, rfl, hF, ho⟩ := hrel
  have xd := iD hF
  have xb := iD ho
  clear hF ho
  by_cases aW : j < N
  ·obtain ⟨y, hy⟩ := getElem?_of_lt (l := b') (k := j) (by rw [HBL']; exact aW)
   obtain ⟨z, hz⟩ := getElem?_of_lt (l := f.img) (k := a + j) (by rw [uY]; omega)
   have Ce : (lay f.img a (b'.take j))[a + j]? = some z := by
    rw [mV _ _ _ (by rw [List.length_take, HBL', uY]; omega), List.length_take, HBL', iN oM]
    exact hz
   have c0 := xd.byte Ce
   have c1 := xd.Zd (a + j)
   obtain ⟨n1, n2⟩ := xd.img (a + j) y (ur y (List.mem_of_getElem? hy))
   rw [jA (by rw [HBL', uY]; exact Wy) hy] at n1
   have xZ := iD n1
   have uJ := iD n2
   cases gU : kK with
   | false =>
    have Le : y = 255 := by
     have h1 := HB'.out
     rw [gU, iN (by simp)] at h1
     rw [← h1, List.getElem?_replicate, iP aW] at hy
     exact (Option.some.inj hy).symm
    subst Le
    clear hy hz Ce n1 n2
    go_wp2
    go_roundw
    case rel => exact ⟨j + 1, oM, by go_num, xZ, xb.trans uJ⟩
    case measure => simp [intOf]; omega
   | true =>
    have Ti : Hid (bits .or .u8 z (dj f.az j) = y) := by
     have h1 := HB'.out
     rw [gU, iP rfl] at h1
     rw [← h1, eJ, List.getElem?_take, iP aW, List.getElem?_drop, hz] at hy
     show _ = _
     simpa [nv] using hy
    have rO := BO (xd.ab fT) j oM
    simp only [zg.out] at rO
    have uj := iD rO
    have X9 := iD (xZ.ab fT)
    have HN4 : Hid (cE L w _) := (xb.trans uJ).trans (cE.ak fT)
    clear hy hz Ce n1 n2 rO
    have RT := Ti.out
    generalize dj f.az j = pk at *
    go_upto_region 15 with (fail)
    go_region_with (go_at_call 96; with_reducible refine uj.out.mono ?_; rintro e w4 ⟨rfl, rfl⟩)
    all_goals
     go_wp2
     go_roundw
     case rel => exact ⟨j + 1, oM, by go_num, X9, HN4⟩
     case measure => simp [intOf]; omega
  have Ba : j = N := oM
  subst Ba
  have eO := xd.out
  rw [List.take_of_length_le (by rw [HBL']; exact Nat.le_refl _), ← HB'] at eO
  have hq := HQ.out
  cases gU : kK with
  | false =>
   rw [gU, iN (by simp)] at eO hq
   subst hq
   have ox := iD eO
   clear eO
   go_wp2
   go_ret
   exact ⟨rfl, ox, xb⟩
  | true =>
   rw [gU, iP rfl] at eO hq
   subst hq
   have ox := iD eO
   clear eO
   go_wp2
   go_ret
   exact ⟨rfl, ox, xb⟩
end
theorem vM (k : IntKind) (n : Nat) : (madeCells #[.int k 0] n).toList = ag k (List.replicate n 0) := by
 apply List.ext_getElem?
 intro j
 simp only [madeCells, ag, Array.toList_map, Array.toList_range, List.getElem?_map]
 by_cases hj : j < n
 ·rw [List.getElem?_range hj, List.getElem?_replicate, iP hj]
  simp
  rw [Nat.mod_one]
  rfl
 rw [List.getElem?_eq_none (by simp; omega), List.getElem?_replicate, iN hj]
 rfl
theorem qj {t : TypeId} (h : w.heap[g]? = some (.cells cs t (0, 0))) : w.frozen? ⟨g, j, none⟩ = false := by
 simp [World.frozen?, h]
theorem bB.fresh (L : Lc) (f : Fl) (dc : f.ok) (hp : f.az = []) (hb : bW w w') (hd : w'.heap[L.d]? = some (.cells #[.int .i64 f.pg, .slice (some ⟨L.gi, 0, none⟩) f.img.length L.ci, .slice (some ⟨L.gw, 0, none⟩) f.aq.length L.cw, .bool f.aF, .int .i64 f.be, .slice none 0 0] 85 (0, 0))) 
 (nl : w.heap.size ≤ L.d) (ni : L.d ≠ L.gi) (nw : L.d ≠ L.gw) (iw : L.gi ≠ L.gw)
 (oi : w'.ownsRow w.heap.size 5 1 (.slice (some ⟨L.gi, 0, none⟩) f.img.length L.ci) f.img.length (ag .u8 f.img)) (ow : w'.ownsRow w.heap.size 3 1 (.slice (some ⟨L.gw, 0, none⟩) f.aq.length L.cw) f.aq.length (aw f.aq))
 (hA : L.Ap = none) (hc : L.cp = 0) (hE : ∀ b, ¬ L.E b) : bB w w' L f := by
 have hx : ∀ j, w'.cell? ⟨L.d, j, none⟩ = _ := fun j => cell_of_row w' L.d j _ 85 (0, 0) hd
 refine ⟨dc, hb, nl, (Array.getElem?_eq_some_iff.1 hd).1, ni, nw, iw, ?_, ?_, ?_, ?_, ?_, ?_, fun j => qj hd, oi, ow, ?_, ?_, ?_, fun b h => absurd h (hE b)⟩
 ·rw [hx 0]; rfl
 ·rw [hx 1]; rfl
 ·rw [hx 2]; rfl
 ·rw [hx 3]; rfl
 ·rw [hx 4]; rfl
 ·rw [hx 5, hp, hA, hc]; rfl
 ·rw [hp, hc]; exact Nat.le_refl _
 ·rw [hc]; exact Nat.zero_le _
 rw [hp]; exact fun h => absurd rfl h
theorem fP (hc : cs.toList = xs) (hl : xs.length = n) (hb : base ≤ w.heap.size) (hm : n ≤ maxLen) :
 (w.alloc (.cells cs e)).ownsRow base e 1 (.slice (some ⟨w.heap.size, 0, none⟩) n n) n xs := by
 refine ⟨oM, .inr ⟨w.heap.size, n, cs, rfl, hb, ?_, Nat.le_refl _, hm, ?_, ?_⟩⟩
 ·show (w.heap.push _)[w.heap.size]? = _
  simp
 ·rw [← Array.length_toList, hc]; omega
 rw [hc, List.take_of_length_le oM]
theorem qU (w : World) (cs : Array Value) (e : Nat) : (w.alloc (.cells cs e)).heap[w.heap.size]? = some (.cells cs e (0, 0)) := by
 show (w.heap.push _)[w.heap.size]? = _
 simp
theorem RP (b p : Nat) (w : World) (h1 : 1 ≤ b) (h2 : b ≤ 64) (h3 : 1 ≤ p) (h4 : p ≤ 16) :
 Calls prog 15 #[.int .i64 b, .int .i64 p] w fun e w' => ∃ L, e = .returned (.tuple #[.pointer (some ⟨L.d, 0, none⟩), .nilIface]) ∧ bB w w' L (ee b p) := by
 obtain ⟨N, hN⟩ := ex (b * p * 64)
 have LD : N ≤ 65536 := by rw [← hN]; have := Nat.mul_le_mul h2 h4; omega
 have JV : 64 ≤ N := by rw [← hN]; have := Nat.mul_le_mul h1 h3; omega
 have e1 : (b : Int) * (p : Int) * 64 = (N : Int) := by rw [← hN]; push_cast; rfl
 go_enter func15, ntmps15
 go_wp2_with (fail)
 refine (mH b 1 64 w oM oM).mono ?_
 rintro e w1 ⟨rfl, rfl⟩
 go_wp2_with (fail)
 refine (mH p 1 16 w oM oM).mono ?_
 rintro e w1 ⟨rfl, rfl⟩
 go_upto_region 3 with (fail)
 obtain ⟨C8, hC8⟩ := ex (madeCells #[.int .u8 0] N)
 obtain ⟨C3, hC3⟩ := ex (madeCells #[.int .i64 0] b)
 have FF : Hid (C8.toList = ag .u8 (List.replicate N 0)) := by rw [← hC8]; exact vM .u8 N
 have vb : Hid (C3.toList = aw (List.replicate b 0)) := by rw [← hC3]; exact vM .i64 b
 have Si : ∀ wx : World, (Instr.makeSlice 32 (.int .i64 (N : Int)) (.int .i64 (N : Int))).run prog wx = .ok (.slice (some ⟨wx.heap.size, 0, none⟩) N N) (wx.alloc (.cells C8 5)) := by
  intro wx
  rw [← hC8]
  exact run_make_row' 32 5 (.int .u8 0) 1 underlying32 kD rfl .i64 .i64 N oM oM wx
 have hm3 : ∀ wx : World, (Instr.makeSlice 33 (.int .i64 (b : Int)) (.int .i64 (b : Int))).run prog wx = .ok (.slice (some ⟨wx.heap.size, 0, none⟩) b b) (wx.alloc (.cells C3 3)) := by
  intro wx
  rw [← hC3]
  exact run_make_row' 33 3 (.int .i64 0) 8 underlying33 mq rfl .i64 .i64 b oM oM wx
 have HN := iD hN
 obtain ⟨BP, WL⟩ := ex (b * p)
 have q1 : (b : Int) * (p : Int) = (BP : Int) := by rw [← WL]; push_cast; rfl
 have q2 : (BP : Int) * 64 = (N : Int) := by rw [← hN, WL]; push_cast; rfl
 have acn : BP ≤ 1024 := oM
 have q3 : IntKind.i64.wrap (BP : Int) = BP := IntWalk.i64_in _ oM
 have q4 : IntKind.i64.wrap (N : Int) = N := IntWalk.i64_in _ oM
 clear hC8 hC3 hN WL e1
 have dc : (⟨p, List.replicate N 0, List.replicate b 0, false, -1, []⟩ : Fl).ok := ⟨h3, h4, by simpa using h1, by simpa using h2, by simp only [List.length_replicate]; exact HN.symm, (by
  intro x hx
  rw [List.mem_replicate] at hx
  omega), (by intro x hx; simp at hx), by simp, by simp⟩
 have gV := iD dc
 clear dc
 go_region
 ·obtain ⟨W, hW⟩ := ex (((w.alloc (.cells C8 5)).alloc (.cells C3 3)).alloc (.cells #[.int .i64 p, .slice (some ⟨w.heap.size, 0, none⟩) N N, .slice (some ⟨w.heap.size + 1, 0, none⟩) b b, .bool false, .int .i64 (-1), .slice none 0 0] 85)).drew
  have hF : bB w W ⟨w.heap.size + 1 + 1, w.heap.size, w.heap.size + 1, N, b, none, 0, fun _ => False⟩ ⟨p, List.replicate N 0, List.replicate b 0, false, -1, []⟩ := by
   have o1 := fP (w := w) (base := w.heap.size) (e := 5) FF (by rw [aE, List.length_replicate]) cV (by unfold maxLen; omega)
   have o2 := fP (w := w.alloc (.cells C8 5)) (base := w.heap.size) (e := 3) vb (by rw [cj, List.length_replicate]) (by simp) (by unfold maxLen; omega)
   rw [World.size_alloc] at o2
   rw [← hW]
   refine bB.fresh _ _ gV rfl (Below.drew (((bV.alloc cV _).alloc (by simp) _).alloc (by simp; omega) _)) ?_ (by simp only; omega) (by simp only; omega) (by simp only; omega) (by simp only; omega) ?_ ?_ rfl rfl (fun _ h => h)
   ·have := qU ((w.alloc (.cells C8 5)).alloc (.cells C3 3)) #[.int .i64 p, .slice (some ⟨w.heap.size, 0, none⟩) N N, .slice (some ⟨w.heap.size + 1, 0, none⟩) b b, .bool false, .int .i64 (-1), .slice none 0 0] 85
    simp only [World.size_alloc] at this
    simp only [List.length_replicate]
    exact this
   ·simp only [List.length_replicate]
    exact aD ((o1.alloc _).alloc _) (Below.drew bV)
   simp only [List.length_replicate]
   exact aD (o2.alloc _) (Below.drew bV)
  rw [hW]
  clear hW
  have HF := iD hF
  clear hF
  generalize w.heap.size + 1 + 1 = d at *
  generalize w.heap.size + 1 = gw at *
  generalize w.heap.size = gi at *
  have h0 := HF.c1
  simp only [List.length_replicate] at h0
  go_wp2
  go_loopw [32] (fun i wr => ∃ j : Nat, j ≤ N ∧ i = .int .i64 j ∧ bB w wr ⟨d, gi, gw, N, b, none, 0, fun _ => False⟩ ⟨p, lay (List.replicate N 0) 0 ((List.replicate N 255).take j), List.replicate b 0, false, -1, []⟩) (fun i _ => N - (intOf i).toNat)
  case atStart =>
   refine ⟨0, oM, rfl, ?_⟩
   rw [List.take_zero, lD]
   exact HF
  case round =>
   obtain ⟨j, hj, rfl, hF⟩ := hrel
   have xd := iD hF
   clear hF
   have gZ : (lay (List.replicate N 0) 0 ((List.replicate N 255).take j)).length = N := by rw [cL _ _ _ (by rw [List.length_take, List.length_replicate, List.length_replicate]; omega), List.length_replicate]
   have c1 := xd.c1
   simp only [gZ] at c1
   by_cases aW : j < N
   ·obtain ⟨z, hz⟩ := getElem?_of_lt (l := lay (List.replicate N 0) 0 ((List.replicate N 255).take j)) (k := j) (by rw [gZ]; exact aW)
    have d0 := xd.byte hz
    have d1 := xd.Zd j
    obtain ⟨n1, _⟩ := xd.img j 255 oM
    have dV := jA (img := List.replicate N 0) (b := List.replicate N 255) (a := 0) (i := j) (x := 255) (by rw [List.length_replicate, List.length_replicate]; omega) (by rw [List.getElem?_replicate, iP aW])
    rw [Nat.zero_add] at dV
    simp only [dV] at n1
    have xZ := iD n1
    clear hz n1 dV gZ h0
    go_wp2
    go_roundw
    case rel => exact ⟨j + 1, oM, by go_num, xZ⟩
    case measure => simp [intOf]; omega
   have Ba : j = N := oM
   subst Ba
   have eO := xd.out
   have Ey : lay (List.replicate j 0) 0 ((List.replicate j 255).take j) = List.replicate j 255 := by
    rw [List.take_of_length_le (by rw [List.length_replicate]; exact Nat.le_refl _)]
    simp [lay]
   rw [Ey] at eO
   have ox : Hid (bB w wr ⟨d, gi, gw, j, b, none, 0, fun _ => False⟩ (ee b p)) := by
    unfold ee
    rw [HN]
    exact eO
   clear eO Ey gZ c1 h0
   go_wp2
   go_ret2
   exact ⟨⟨d, gi, gw, j, b, none, 0, fun _ => False⟩, rfl, ox⟩
 obtain ⟨W, hW⟩ := ex (((w.alloc (.cells C3 3)).alloc (.cells C8 5)).alloc (.cells #[.int .i64 p, .slice (some ⟨w.heap.size + 1, 0, none⟩) N N, .slice (some ⟨w.heap.size, 0, none⟩) b b, .bool false, .int .i64 (-1), .slice none 0 0] 85)).drew
 have hF : bB w W ⟨w.heap.size + 1 + 1, w.heap.size + 1, w.heap.size, N, b, none, 0, fun _ => False⟩ ⟨p, List.replicate N 0, List.replicate b 0, false, -1, []⟩ := by
  have o1 := fP (w := w) (base := w.heap.size) (e := 3) vb (by rw [cj, List.length_replicate]) cV (by unfold maxLen; omega)
  have o2 := fP (w := w.alloc (.cells C3 3)) (base := w.heap.size) (e := 5) FF (by rw [aE, List.length_replicate]) (by simp) (by unfold maxLen; omega)
  rw [World.size_alloc] at o2
  rw [← hW]
  refine bB.fresh _ _ gV rfl (Below.drew (((bV.alloc cV _).alloc (by simp) _).alloc (by simp; omega) _)) ?_ (by simp only; omega) (by simp only; omega) (by simp only; omega) (by simp only; omega) ?_ ?_ rfl rfl (fun _ h => h)
  ·have := qU ((w.alloc (.cells C3 3)).alloc (.cells C8 5)) #[.int .i64 p, .slice (some ⟨w.heap.size + 1, 0, none⟩) N N, .slice (some ⟨w.heap.size, 0, none⟩) b b, .bool false, .int .i64 (-1), .slice none 0 0] 85
   simp only [World.size_alloc] at this
   simp only [List.length_replicate]
   exact this
  ·simp only [List.length_replicate]
   exact aD (o2.alloc _) (Below.drew bV)
  simp only [List.length_replicate]
  exact aD ((o1.alloc _).alloc _) (Below.drew bV)
 rw [hW]
 clear hW
 have HF := iD hF
 clear hF
 generalize w.heap.size + 1 + 1 = d at *
 generalize w.heap.size + 1 = gi at *
 generalize w.heap.size = gw at *
 have h0 := HF.c1
 simp only [List.length_replicate] at h0
 go_wp2
 go_loopw [32] (fun i wr => ∃ j : Nat, j ≤ N ∧ i = .int .i64 j ∧ bB w wr ⟨d, gi, gw, N, b, none, 0, fun _ => False⟩ ⟨p, lay (List.replicate N 0) 0 ((List.replicate N 255).take j), List.replicate b 0, false, -1, []⟩) (fun i _ => N - (intOf i).toNat)
 case atStart =>
  refine ⟨0, oM, rfl, ?_⟩
  rw [List.take_zero, lD]
  exact HF
 case round =>
  obtain ⟨j, hj, rfl, hF⟩ := hrel
  have xd := iD hF
  clear hF
  have gZ : (lay (List.replicate N 0) 0 ((List.replicate N 255).take j)).length = N := by rw [cL _ _ _ (by rw [List.length_take, List.length_replicate, List.length_replicate]; omega), List.length_replicate]
  have c1 := xd.c1
  simp only [gZ] at c1
  by_cases aW : j < N
  ·obtain ⟨z, hz⟩ := getElem?_of_lt (l := lay (List.replicate N 0) 0 ((List.replicate N 255).take j)) (k := j) (by rw [gZ]; exact aW)
   have d0 := xd.byte hz
   have d1 := xd.Zd j
   obtain ⟨n1, _⟩ := xd.img j 255 oM
   have dV := jA (img := List.replicate N 0) (b := List.replicate N 255) (a := 0) (i := j) (x := 255) (by rw [List.length_replicate, List.length_replicate]; omega) (by rw [List.getElem?_replicate, iP aW])
   rw [Nat.zero_add] at dV
   simp only [dV] at n1
   have xZ := iD n1
   clear hz n1 dV gZ h0
   go_wp2
   go_roundw
   case rel => exact ⟨j + 1, oM, by go_num, xZ⟩
   case measure => simp [intOf]; omega
  have Ba : j = N := oM
  subst Ba
  have eO := xd.out
  have Ey : lay (List.replicate j 0) 0 ((List.replicate j 255).take j) = List.replicate j 255 := by
   rw [List.take_of_length_le (by rw [List.length_replicate]; exact Nat.le_refl _)]
   simp [lay]
  rw [Ey] at eO
  have ox : Hid (bB w wr ⟨d, gi, gw, j, b, none, 0, fun _ => False⟩ (ee b p)) := by
   unfold ee
   rw [HN]
   exact eO
  clear eO Ey gZ c1 h0
  go_wp2
  go_ret2
  exact ⟨⟨d, gi, gw, j, b, none, 0, fun _ => False⟩, rfl, ox⟩
def dT (x lo hi : Int) : Int := max lo (min x hi)
theorem mw (x lo hi : Int) (w : World) : Calls prog 23 #[.int .i64 x, .int .i64 lo, .int .i64 hi] w fun e w' => e = .returned (.int .i64 (dT x lo hi)) ∧ w = w' := by
 go_enter func23, ntmps23
 go_wp2
 go_ret
 exact ⟨rfl, rfl⟩
theorem qJ (hl : l.length = n) (h : w.ownsRow base e 1 (.slice (some ⟨g, 0, none⟩) n cap) n (ag ki l)) (hx : l[k]? = some x) : w.cell? ⟨g, k, none⟩ = some (.int ki x) := by
 have := (List.getElem?_eq_some_iff.1 hx).1
 rw [h.cellAt k oM]
 simp [ag, hx]
theorem ir (h : w.ownsRow base e 1 (.slice (some ⟨g, 0, none⟩) n cap) n (ag ki l)) (k : Nat) (x : Int) :
 (w.setCell ⟨g, k, none⟩ (.int ki x)).ownsRow base e 1 (.slice (some ⟨g, 0, none⟩) n cap) n (ag ki (l.set k x)) := by
 have : ag ki (l.set k x) = (ag ki l).set k (.int ki x) := by simp [ag]
 rw [this]
 exact (h.stored k (.int ki x)).1
theorem cm (w : World) (cs : Array Value) (t : TypeId) (j : Nat) (u : Value) (g : Nat) (hg : g = w.heap.size) (h : cs[j]? = some u) : (w.alloc (.cells cs t)).cell? ⟨g, j, none⟩ = some u := by
 subst hg
 rw [World.cell?_alloc_new]
 exact h
theorem zc {L : Lc} {w0 : World} {f : Fl} (h : bB w0 w L f) (hn : xs.length = n) (ho : w'.ownsRow w.heap.size e 1 (.slice A n c) n xs) : gQ L w' A xs := by
 intro fR
 obtain ⟨b, off, hA, aW, hc⟩ := ky ho fR
 obtain ⟨A', c', hv, _, _, Ck⟩ := a9 ho
 injection hv with e1 e2 e3
 obtain ⟨g, hg, dB, dZ⟩ := Ck (by
  cases xs with
  | nil => exact absurd rfl fR
  | cons x r => simp at hn; omega)
 rw [← e1, hA] at hg
 injection hg with hg
 injection hg with ub vV
 have hd := h.ld
 have hi := h.bi.2
 have hw := h.bw.2
 exact ⟨b, off, hA, aW, oM, oM, oM, hc⟩
theorem I5 (n : Nat) (x : Int) (hx : 0 ≤ x ∧ x < 256) : Bytes (List.replicate n x) := by
 intro y hy
 rw [List.mem_replicate] at hy
 omega
theorem Gg (bi pi : Int) (b p : Nat) (hb : bi = b) (hp : pi = p) (w : World) (h1 : 1 ≤ b) (h2 : b ≤ 64) (h3 : 1 ≤ p) (h4 : p ≤ 16) :
 Calls prog 15 #[.int .i64 bi, .int .i64 pi] w fun e w' => ∃ L, e = .returned (.tuple #[.pointer (some ⟨L.d, 0, none⟩), .nilIface]) ∧ bB w w' L (ee b p) := by
 subst hb hp
 exact RP b p w h1 h2 h3 h4
theorem lN (hA : Rd w B A (ag .u8 b)) (hn : b.length = n) : (convert 32 9 (.slice A n c)).run prog w = .ok (.string (strOfNums b)) w := by
 by_cases h0 : n = 0
 ·subst h0
  have hb : b = [] := List.eq_nil_of_length_eq_zero hn
  subst hb
  cases A with
  | none => exact run_convert_bytes_nil w 32 5 underlying32 underlying5 0 c 9 underlying9
  | some a =>
   rw [run_convert_bytes_string w 32 9 5 _ 0 c underlying32 underlying5 underlying9, run_bytesToString w a 0 c [] rfl]
   rfl
 obtain ⟨g, off, rfl, _, hc⟩ := hA (by
  intro h
  have := congrArg List.length h
  simp [ag] at this
  subst this
  simp at hn
  omega)
 refine run_convert_bytes_arg w 32 5 underlying32 underlying5 g off n c b hn (fun i hi => ?_) 9 underlying9
 refine hc i _ ?_
 have Co : i < b.length := oM
 simp [ag, List.getElem?_eq_getElem Co, List.getD_eq_getElem?_getD]
theorem U6 : (strOfNums a).toList = a.map (fun n => UInt8.ofNat n.toNat) := by
 rw [Go.Lib.strOfNums_toList]
 rfl
theorem str_inj (ha : Bytes a) (hb : Bytes b) (h : (strOfNums a).toList = (strOfNums b).toList) : a = b := by
 rw [U6, U6] at h
 have h2 := congrArg (List.map (fun u : UInt8 => (u.toNat : Int))) h
 rw [List.map_map, List.map_map] at h2
 have key : ∀ l : List Int, Bytes l → l.map ((fun u : UInt8 => (u.toNat : Int)) ∘ fun n => UInt8.ofNat n.toNat) = l := by
  intro l hl
  induction l with
  | nil => rfl
  | cons x l ih =>
   rw [List.map_cons, ih (fun y hy => hl y (List.mem_cons_of_mem _ hy))]
   have hx := hl x List.mem_cons_self
   congr 1
   show ((UInt8.ofNat x.toNat).toNat : Int) = x
   rw [UInt8.toNat_ofNat']
   omega
 rw [key a ha, key b hb] at h2
 exact h2
theorem FP (ha : Bytes a) (hb : Bytes b) : ((strOfNums a).toList == (strOfNums b).toList) = decide (a = b) := by
 by_cases h : a = b
 ·rw [h, decide_eq_true rfl]
  simp
 rw [decide_eq_false h]
 rw [beq_eq_false_iff_ne]
 exact fun e => h (str_inj ha hb e)
section
variable {P : Program} {ops : Array Oper} {Q : Exit → Act → World → Prop} {md : Region.Mode} {S T : World → Prop}
end
theorem qC {m : List Int} {y : Int} (hx : l[k]? = some x) (hy : m[k]? = some y) (h : l.take k = m.take k) (e : x = y) : l.take (k + 1) = m.take (k + 1) := by
 rw [bA l k x hx, bA m k y hy, h, e]
theorem Lb (A A' : Option Addr) (n m c c' : Nat) (l l' : List Int) (w : World) (hA : Rd w w.heap.size A (aw l)) (WN : Rd w w.heap.size A' (aw l')) (hn : l.length = n) (hm : l'.length = m) (VU : n ≤ maxLen) (Qm : m ≤ maxLen) :
 Calls prog 71 #[.slice A n c, .slice A' m c'] w fun e w' => e = .returned (.bool (decide (l = l'))) ∧ ∃ k, w.drewN k = w' := by
 unfold maxLen at VU Qm
 have HN := iD hn
 have HM := iD hm
 clear hn hm
 by_cases fR : n = m
 ·subst fR
  have HA := iD hA
  have HA' := iD WN
  clear hA WN
  have fR : ((n : Int) != (n : Int)) = false := by simp
  go_enter func71, ntmps71
  go_wp2
  go_loopw [13] (fun i wr => ∃ k : Nat, k ≤ n ∧ i = .int .i64 k ∧ l.take k = l'.take k ∧ ∃ q, wr = w.drewN q) (fun i wr => n - (intOf i).toNat)
  case atStart => exact ⟨0, Nat.zero_le _, rfl, rfl, 0, rfl⟩
  case round =>
   obtain ⟨k, hk, rfl, ht, q, rfl⟩ := hrel
   have HT := iD ht
   clear ht
   by_cases aW : k < n
   ·obtain ⟨x, hx⟩ := getElem?_of_lt (l := l) (k := k) (by rw [HN]; exact aW)
    obtain ⟨y, hy⟩ := getElem?_of_lt (l := l') (k := k) (by rw [HM]; exact aW)
    obtain ⟨b, off, rfl, cB, e0⟩ := HA.int hx
    obtain ⟨b', sI, rfl, EC, e1⟩ := HA'.int hy
    have HX := iD hx
    have HY := iD hy
    clear hx hy
    by_cases he : x = y
    ·have he' : (x != y) = false := by simpa using he
     have HE := iD he
     clear he
     go_wp2
     go_quiet (fail)
     go_wp2
     go_roundw
     case rel => exact ⟨k + 1, oM, by go_num, qC HX HY HT HE, _, rfl⟩
     case measure => simp [intOf]; omega
    have he' : (x != y) = true := by simpa using he
    have HE : Hid (decide (l = l') = false) := decide_eq_false (fun e => he (by
     have h1 := HX.out
     rw [e, HY] at h1
     exact (Option.some.inj h1).symm))
    clear he
    go_wp2
    go_quiet (fail)
    go_wp2
    go_ret
    exact ⟨by rw [HE]; rfl, _, (World.drewN_drewN ..).symm⟩
   have kg : k = n := oM
   subst kg
   have HE : Hid (decide (l = l') = true) := decide_eq_true (by
    have h1 := HT.out
    rwa [List.take_of_length_le (by rw [HN]; omega), List.take_of_length_le (by rw [HM]; omega)] at h1)
   go_wp2
   go_ret
   exact ⟨by rw [HE]; rfl, _, rfl⟩
 have hne' : ((n : Int) != (m : Int)) = true := by simp; omega
 have HE : Hid (decide (l = l') = false) := decide_eq_false (fun e => fR (by rw [← HN, ← HM, e]))
 clear fR
 go_enter func71, ntmps71
 go_wp2
 go_ret
 exact ⟨by rw [HE]; rfl, 0, rfl⟩
end Go.Proofs.YtjdknddnanopaaaGreat
