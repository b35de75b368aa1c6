/-
  Part 26 of the proof.
-/
import Derived.Test.YtjdknddnanopaaaGreatQ23
import Derived.Test.YtjdknddnanopaaaGreatQ25
namespace Go.Proofs.YtjdknddnanopaaaGreat
open Go.RowKit Tryz
set_option maxRecDepth 100000
set_option maxHeartbeats 16000000
set_option linter.all false
variable {w : World} {o : Oper} {a : Go.Act} {Q : Exit → Go.Act → World → Prop}
theorem z23 {C : Array Value} (h : C.size = 4) : (prog.info? 23).map (·.size) = some C.size := by
 rw [h]
 kernel_rfl
theorem OY (args : Array Value) (w : World) : (callFunc 9 args).run prog w = .ok (.enter 9 args) w := by
 go_simp
theorem U1 (L : Lc) (m : Nat) : X7 L m L.d ∧ X7 L m L.gi ∧ X7 L m L.gw := ⟨.inl rfl, .inr (.inl rfl), .inr (.inr (.inl rfl))⟩
section
variable {ops : Array Oper} {rest : List Oper} {o : Oper} {a : Go.Act} {w : World} {Q : Exit → Go.Act → World → Prop}
theorem aaW (nz : o.guard = none) (ho : o.op = .alloc 35) (h : wpList prog ops Q rest (a.put o.dst (.pointer (some ⟨w.heap.size, 0, none⟩))) (w.alloc (.cells zF 35))) : wpList prog ops Q (o :: rest) a w :=
 wpList_plain nz fun K hK => by
  have he : (execOp a.eval o).run prog w = .ok (.value (.pointer (some ⟨w.heap.size, 0, none⟩))) (w.alloc (.cells zF 35)) := by
   unfold execOp
   simp only [ho]
   go_simp
  unfold Oper.wp
  rw [he]
  exact hK _ _ h
theorem aaV (nz : o.guard = none) (ho : o.op = .alloc 45) (h : wpList prog ops Q rest (a.put o.dst (.pointer (some ⟨w.heap.size, 0, none⟩))) (w.alloc (.cells zB 45))) : wpList prog ops Q (o :: rest) a w :=
 wpList_plain nz fun K hK => by
  have he : (execOp a.eval o).run prog w = .ok (.value (.pointer (some ⟨w.heap.size, 0, none⟩))) (w.alloc (.cells zB 45)) := by
   unfold execOp
   simp only [ho]
   go_simp
  unfold Oper.wp
  rw [he]
  exact hK _ _ h
end
theorem RM {b o : Nat} {v0 v1 v2 v3 : Value} (c0 : w.cell? ⟨b, o, none⟩ = some v0) (c1 : w.cell? ⟨b, o + 1, none⟩ = some v1) (c2 : w.cell? ⟨b, o + 2, none⟩ = some v2) (c3 : w.cell? ⟨b, o + 3, none⟩ = some v3) : w.rangeAt b o [v0, v1, v2, v3] := fun i u hu => by
 match i, hu with
 | 0, hu => obtain rfl : v0 = u := by simpa using hu
            exact c0
 | 1, hu => obtain rfl : v1 = u := by simpa using hu
            exact c1
 | 2, hu => obtain rfl : v2 = u := by simpa using hu
            exact c2
 | 3, hu => obtain rfl : v3 = u := by simpa using hu
            exact c3
 | i + 4, hu => simp at hu
abbrev z4 : Array Value := #[.int .u8 0, .int .i64 0, .int .i64 0, .slice none 0 0]
theorem aaU {ops : Array Oper} {rest : List Oper} (nz : o.guard = none) (ho : o.op = .alloc 52) (h : wpList prog ops Q rest (a.put o.dst (.pointer (some ⟨w.heap.size, 0, none⟩))) (w.alloc (.cells z4 52))) : wpList prog ops Q (o :: rest) a w :=
 wpList_plain nz fun K hK => by
  have he : (execOp a.eval o).run prog w = .ok (.value (.pointer (some ⟨w.heap.size, 0, none⟩))) (w.alloc (.cells z4 52)) := by
   unfold execOp
   simp only [ho]
   go_simp
  unfold Oper.wp
  rw [he]
  exact hK _ _ h
theorem O8 (d D : Nat) (y : Rc) (g : Fl) (r : Rb) (b : Bk) : prog.built 50 [(0, .pointer (some ⟨d, 0, none⟩)), (1, .pointer (some ⟨D, 0, none⟩)), (2, .agg (xa y g)), (3, .agg (ba r b))] = some (bE d D (xa y g) (ba r b)) := by
 kernel_rfl
theorem aaT {ops : Array Oper} {rest : List Oper} (nz : o.guard = none) (x : Operand) (ho : o.op = .box 50 x) (V : Array Value) (hx : a.eval x = .agg V) (h : wpList prog ops Q rest (a.put o.dst (.pointer (some ⟨w.heap.size, 0, none⟩))) (w.alloc (.cells V 50))) : wpList prog ops Q (o :: rest) a w :=
 wpList_plain nz fun K hK => by
  have he : (execOp a.eval o).run prog w = .ok (.value (.pointer (some ⟨w.heap.size, 0, none⟩))) (w.alloc (.cells V 50)) := by
   unfold execOp
   simp only [ho, hx]
   go_simp
  unfold Oper.wp
  rw [he]
  exact hK _ _ h
theorem Pf.first {W0 : World} {L : Lc} {f g : Fl} {y : Rc} (hf : bB W0 w L f) (hy : cf (fun b => b = L.d ∨ b = L.gi ∨ b = L.gw ∨ L.E b) w y g) : Pf W0 ((w.alloc (.cells zF 35)).setRow w.heap.size (xa y g)) L f w.heap.size y g := by
 have hb : Below w.heap.size w ((w.alloc (.cells zF 35)).setRow w.heap.size (xa y g)) := below_setRow (bV.alloc cV _) cV _
 have h1 := hf.ld
 have h2 := hf.bi.2
 have h3 := hf.bw.2
 refine ⟨hf.ab hb, (hy.nM (fun b aW hx => ?_)).below hb, setRow_heap _ _ zF _ 35 _ (heap_alloc_new w _), ⟨oM, oM, oM, fun e => Nat.lt_irrefl _ (hf.eb _ e)⟩, hf.below.size⟩
 rcases hx with e | e | e | e | e
 ·exact .inl e
 ·exact .inr (.inl e)
 ·exact .inr (.inr (.inl e))
 ·exact .inr (.inr (.inr e))
 omega
theorem plays_any (s0 s1 s2 s3 : Int) (A : Option Addr) (n c : Nat) (l : List Ev) (w : World) (hA : Rd w w.heap.size A (tc l)) (hn : l.length = n) (qa : n ≤ c) (fS : c ≤ maxLen) (dc : ∀ x ∈ l, x.ok w w.heap.size) :
 Calls prog 4 #[.agg #[.int .i64 s0, .int .i64 s1, .int .i64 s2, .int .i64 s3], .slice A n c] w fun e w' => e = .returned (.bool true) ∧ bW w w' := by
 have g1 := ne_nil
 have g3 := eq_nil
 obtain ⟨C, hC⟩ : ∃ C : Nat, dT s0 0 1 = C := ⟨(dT s0 0 1).toNat, by unfold dT; omega⟩
 have jg : C ≤ 1 := by unfold dT at hC; omega
 obtain ⟨B, hB⟩ := ex (4 + 2 * C)
 obtain ⟨P, hP⟩ : ∃ P : Nat, dT s1 2 4 = P := ⟨(dT s1 2 4).toNat, by unfold dT; omega⟩
 have WB : 2 ≤ P ∧ P ≤ 4 := by unfold dT at hP; omega
 obtain ⟨sd, hS⟩ : ∃ S : Nat, dT s2 1 1073741824 = S := ⟨(dT s2 1 1073741824).toNat, by unfold dT; omega⟩
 have Uo : 1 ≤ sd ∧ sd ≤ 1073741824 := by unfold dT at hS; omega
 obtain ⟨k, hk⟩ := ex (1 + C)
 have SL : B = 2 * k + 2 := oM
 obtain ⟨Q, hQ⟩ := ex ((B - 2) / 2 * P * 64)
 have hQ1 : 128 ≤ Q ∧ Q ≤ 512 := by
  have e : (B - 2) / 2 = k := oM
  rw [e] at hQ
  have h1 := Nat.mul_le_mul (show 1 ≤ k by omega) WB.1
  have h2 := Nat.mul_le_mul (show k ≤ 2 by omega) WB.2
  omega
 obtain ⟨N, hN⟩ : ∃ N : Nat, dT s3 1 (Q : Int) = N := ⟨(dT s3 1 (Q : Int)).toNat, by unfold dT; omega⟩
 have JV : 1 ≤ N ∧ N ≤ Q := by unfold dT at hN; omega
 have Y9 : 4 ≤ B ∧ B ≤ 6 := oM
 have So : 1 ≤ k ∧ k ≤ 2 := oM
 obtain ⟨B1, EE⟩ := ex (B + 1)
 have acp : 5 ≤ B1 ∧ B1 ≤ 7 := oM
 have Y3 : k * P * 64 = Q := by rw [← hQ, show (B - 2) / 2 = k by omega]
 obtain ⟨img, jo⟩ := ex (fg sd N)
 have ua : img.length = N := by rw [← jo]; exact dy _ _
 have Qr : Bytes img := by rw [← jo]; exact jC _ _
 have gM := Ed (b := B1) (p := P) oM oM oM oM
 have lG : (ee B1 P).aq.length = B1 := by unfold ee; simp
 have hsz : aN (ee B1 P) (2 * k + 2) = k * P * 64 := by
  unfold aN
  rw [show (2 * k + 2 - 2) / 2 = k by omega]
  rfl
 obtain ⟨fQ, ka, rO⟩ := F4 (first := 1) (k := k) gM So.1 oM oM WB.1 Qr (by rw [ua]; exact JV.1) (by rw [ua, hsz, Y3]; exact JV.2) (v := (sd : Int)) ⟨oM, oM⟩
 have HFY : Hid (∀ {w0 w : World} {L : Lc}, bB w0 w L (ee B1 P) → ∀ A, gQ L w A (ag .u8 img) → Calls prog 16 #[.pointer (some ⟨L.d, 0, none⟩), .int .i64 1, .int .i64 B, .int .i64 sd, .slice A N N] w fun e w' => e = .returned .nilIface ∧ bB w0 w' L (iU (ee B1 P) 1 (2 * k + 2) sd (eS img) img).2.1 ∧ cE L w w') := fun hF A hA =>
  Gz hF gM rfl 1 k So.1 oM oM WB.1 (sd : Int) ⟨oM, oM⟩ A N N img hA ua cV (by unfold maxLen; omega) Qr JV.1 (by rw [hsz, Y3]; exact JV.2) 1 (B : Int) rfl (by rw [SL])
 have UI := iD (fun (X : Nat → Prop) (wr : World) (y : Rc) (h9 : cf X wr y (ee B1 P)) (hX : ∀ b, X b → b < wr.heap.size) (A9 : Option Addr) (hA9 : Rd wr wr.heap.size A9 (ag .u8 img)) => KA h9 hX gM 1 k So.1 oM oM WB.1 (sd : Int) ⟨oM, oM⟩ A9 N N img hA9 ua cV (by unfold maxLen; omega) Qr JV.1 (by rw [hsz, Y3]; exact JV.2) 1 (B : Int) rfl (by rw [SL]))
 simp only [← uw] at UI
 obtain ⟨G, hG⟩ := ex (iU (ee B1 P) 1 (2 * k + 2) sd (eS img) img).2.1
 rw [hG] at fQ ka rO HFY UI
 obtain ⟨b, hb⟩ := ex (dI G ((1 : Nat) : Int) ((2 * k + 2 : Nat) : Int))
 rw [hb] at fQ
 have Zs := iD (Hq fQ)
 have uj : Hid (G.az = []) := rO
 have DF : Hid (b.erase = [] ∧ b.data = none) := by rw [fQ.nb]; exact ⟨rfl, rfl⟩
 have TD := iD (fun W => wM (sd : Int) (N : Int) N (by unfold dT; omega) W)
 rw [jo] at TD
 have pZ : eC G (1 : Int) (B : Int) = 0 := by have := fQ.YF; rw [← SL] at this; exact this
 have Ue : dR G (1 : Int) (B : Int) = 0 := by have := fQ.oe; rw [← SL] at this; exact this
 have Lq : dI G (1 : Int) (B : Int) = b := by rw [← hb, ← SL]; rfl
 have uI : Hid (∀ {w0 w : World} {L : Lc}, bB w0 w L G → Calls prog 17 #[.pointer (some ⟨L.d, 0, none⟩), .int .i64 1, .int .i64 B] w (AQ w0 w L G b)) := fun {w0 w L} hF => by
  have := s7 hF (1 : Int) (B : Int) pZ Ue (by rw [rO]; exact cn.nil)
  rw [Lq] at this
  exact this
 have HRO := iD (fun (X : Nat → Prop) (wr : World) (y : Rc) (h9 : cf X wr y G) (hX : ∀ b, X b → b < wr.heap.size) => FZ h9 hX (1 : Int) (B : Int) (by unfold dH; omega) (by unfold dH; omega))
 simp only [← uw] at HRO
 have MQ := iD Ue
 have AL := iD Lq
 have uY := iD ua
 clear jo ua Qr gM lG hsz fQ ka rO hG hb pZ Ue Lq Y3
 have Yh := iD (fun w => IJ s0 s1 s2 s3 C B P sd N hC hB hP hS (by rw [hQ]; exact hN) w)
 have Zw := iD (fun (wr : World) (hb : bW w wr) => Cb A n c l wr ((hA.below hb cV).more hb.size) hn qa fS (fun x hx => OT ((dc x hx).below hb cV) hb.size))
 obtain ⟨Z, hZ⟩ := ex (#[.int .i64 s0, .int .i64 s1, .int .i64 s2, .int .i64 s3] : Array Value)
 obtain ⟨Z1, YY⟩ := ex (#[.int .i64 B, .int .i64 P, .int .i64 sd, .int .i64 N] : Array Value)
 have HZ : Hid (Z.size = 4) := by rw [← hZ]; rfl
 have nB : Hid (Z1.size = 4 ∧ Z1.all (·.oneCell') = true ∧ Z1[0]? = some (.int .i64 B) ∧ Z1[1]? = some (.int .i64 P) ∧ Z1[2]? = some (.int .i64 sd) ∧ Z1[3]? = some (.int .i64 N)) := by rw [← YY]; exact ⟨rfl, by simp [Value.oneCell'], rfl, rfl, rfl, rfl⟩
 rw [hZ, YY] at Yh
 rw [hZ]
 clear hZ YY hC hP hS hN hQ
 obtain ⟨W, hW⟩ := ex (w.alloc (.cells Z 23))
 have H0 := iD (Fr.one hW)
 have HA := iD hA
 have gV := iD dc
 have HN := iD hn
 clear hA dc hn
 go_enter func4, ntmps4
 go_wp2_with (fail)
 try rw [hW]
 clear hW
 refine (uh _).mono ?_
 rintro e w1 ⟨rfl, dB⟩
 have H1 := iD (H0.ab dB)
 clear dB
 go_wp2_with (fail)
 refine (Zw _ H1.below).mono ?_
 rintro e w2 ⟨rfl, dZ⟩
 have H2 := iD (H1.ab dZ)
 clear dZ
 obtain ⟨lg, Qn⟩ := ex (vO l)
 have hlen : lg = false → l.length ≤ 200 := fun e => by
  rw [← Qn] at e
  unfold vO at e
  have := of_decide_eq_false e
  omega
 rw [Qn]
 clear Qn
 cases lg with
 | true =>
  go_wp2_with (fail)
  refine (uh _).mono ?_
  rintro e w3 ⟨rfl, gL⟩
  go_wp2
  try go_ret
  exact ⟨rfl, (H2.ab gL).below⟩
 | false =>
  have hlen := hlen rfl
  go_upto_region 3 with (fail)
  refine wp_region_list ?_
  refine wpList_load_row rfl 23 _ rfl w.heap.size rfl 23 Z (0, 0) _ H2.aC underlying23 rfl (z23 HZ) ?_
  simp only [nm]
  refine cP (Yh _) ?_
  rintro e w3 ⟨rfl, gL⟩
  have H3 := iD (H2.ab gL)
  clear gL
  refine rP ?_
  refine wpList_store_rowTo rfl 23 _ _ rfl rfl w.heap.size Z1 rfl rfl 23 Z H3.aC (z23 nB.1) (HZ.trans nB.1.symm) nB.2.1 ?_
  have H4 := iD (H3.BL Z1)
  generalize w3.setRow w.heap.size Z1 = w4 at H4 ⊢
  clear H0 H1 H2 H3
  have q1 : IntKind.i64.wrap ((B : Int) + 1) = (B1 : Int) := by rw [IntWalk.i64_in _ oM]; omega
  have d0 := H4.cell0 0 nB.2.2.1
  have d1 := H4.cell0 1 nB.2.2.2.1
  have rM := iD SL
  have zm := iD EE
  clear hB hk hlen SL EE
  go_upto_region 4 with (fail)
  go_wp2_with (fail)
  refine (Gg (B1 : Int) (P : Int) B1 P rfl rfl w4 oM oM oM oM).mono ?_
  rintro e w5 ⟨L, rfl, hf5⟩
  have UT := iD hf5
  have H5 := iD (H4.ab hf5.below)
  clear hf5 d0 d1
  go_upto_region 5 with (fail)
  have d0 := H5.cell0 0 nB.2.2.1
  have d1 := H5.cell0 1 nB.2.2.2.1
  refine wp_region_list ?_
  refine wV (.pointer (some ⟨w.heap.size, 0, none⟩)) ?_
  refine wV (.int .i64 B) ?_
  refine wV (.int .i64 B1) ?_
  refine wV (.pointer (some ⟨w.heap.size, 1, none⟩)) ?_
  refine wV (.int .i64 P) ?_
  refine iL (n := 9) (al := [.int .i64 B1, .int .i64 P]) rfl _ _ rfl (by rfl) OY ?_
  (with_reducible refine (KW (X := fun b => b = L.d ∨ b = L.gi ∨ b = L.gw ∨ L.E b) B1 P w5 (fun b hb => by
   rcases hb with e | e | e | e
   ·rw [e]; exact UT.out.ld
   ·rw [e]; exact UT.out.bi.2
   ·rw [e]; exact UT.out.bw.2
   exact UT.out.eb b e) oM oM oM oM).mono ?_)
  rintro e w6 ⟨y6, rfl, Ld, fx⟩
  rw [← uw]
  have GP := iD (Pf.first (UT.ab fx) Ld)
  have jf : Below w6.heap.size w6 ((w6.alloc (.cells zF 35)).setRow w6.heap.size (xa y6 (ee B1 P))) := below_setRow (bV.alloc cV _) cV _
  have H6 := iD ((H5.ab fx).ab jf)
  have HM := iD (heap_alloc_new w6 (.cells zF 35))
  clear Ld fx jf d0 d1
  refine rP ?_
  refine wV (.tuple #[.agg (xa y6 (ee B1 P)), .int .i64 0]) ?_
  refine wV (.agg (xa y6 (ee B1 P))) ?_
  refine wV (.int .i64 0) ?_
  refine aaW rfl rfl ?_
  simp only [nm]
  refine RA rfl _ _ rfl rfl w6.heap.size (xa y6 (ee B1 P)) rfl rfl zF HM (aQ _ _) rfl (mE _ _) ?_
  obtain ⟨w7, hw7⟩ := ex ((w6.alloc (.cells zF 35)).setRow w6.heap.size (xa y6 (ee B1 P)))
  rw [hw7] at GP H6
  rw [hw7]
  generalize w6.heap.size = m7 at GP ⊢
  clear hw7 HM H5 UT
  go_upto_region 8 with (fail)
  have H8 := iD (GP.ab fT)
  refine wp_region_held_drew (S := fun w' => w'.heap[w.heap.size]? = some (.cells Z1 23 (0, 0))) (by kernel_rfl) ((H4.ab H8.fl.below).aC) (fun _ => ?_)
  refine vP 0 L.d 0 ((H4.ab H8.fl.below).aC) ?_
  refine vP 1 w.heap.size 0 ((H4.ab H8.fl.below).aC) ?_
  refine tL 2 _ rfl (yC fun _ hS => gH hS nB.2.2.1) ((H4.ab H8.fl.below).aC) ?_
  refine vP 3 w.heap.size 2 ((H4.ab H8.fl.below).aC) ?_
  refine tL 4 _ rfl (yC fun _ hS => gH hS nB.2.2.2.2.1) ((H4.ab H8.fl.below).aC) ?_
  refine vP 5 w.heap.size 2 ((H4.ab H8.fl.below).aC) ?_
  refine tL 6 _ rfl (yC fun _ hS => gH hS nB.2.2.2.2.1) ((H4.ab H8.fl.below).aC) ?_
  refine vP 7 w.heap.size 3 ((H4.ab H8.fl.below).aC) ?_
  refine tL 8 _ rfl (yC fun _ hS => gH hS nB.2.2.2.2.2) ((H4.ab H8.fl.below).aC) ?_
  refine wI 9 (cW (TD _) ?_)
  rintro e v9 ⟨A9, rfl, kd, lS⟩
  have Bi := iD (cn.new H8.Rn cV (by rw [aE]; exact uY) kd)
  have H9 := iD (H8.ab lS)
  clear kd lS
  refine rW (H4.ab H9.fl.below).aC ?_
  refine wI 10 (cW (HFY H9.fl A9 (Bi.apart (U1 L m7))) ?_)
  rintro e v10 ⟨rfl, Wd, VT⟩
  have nk := iD (H9.prog Wd VT)
  clear Wd VT
  refine rW (H4.ab nk.fl.below).aC ?_
  refine tV 11 .nilIface ((H4.ab nk.fl.below).aC) ?_
  refine wD ?_
  go_upto_region 9 with (fail)
  have kW := iD (nk.ab fT)
  refine mh (by kernel_rfl) (fun w' => w'.heap[m7]? = some (.cells (xa y6 (ee B1 P)) 35 (0, 0)) ∧ w'.heap[w.heap.size]? = some (.cells Z1 23 (0, 0))) 14 ?_
  refine tM 0 _ rfl (jT (fun _ hS => hS.1) ((aQ _ _))) (⟨kW.row, (H4.ab kW.fl.below).aC⟩) ?_
  refine kP 1 w.heap.size 0 (⟨kW.row, (H4.ab kW.fl.below).aC⟩) ?_
  refine tM 2 _ rfl (yC fun _ hS => gH hS.2 nB.2.2.1) (⟨kW.row, (H4.ab kW.fl.below).aC⟩) ?_
  refine kP 3 w.heap.size 2 (⟨kW.row, (H4.ab kW.fl.below).aC⟩) ?_
  refine tM 4 _ rfl (yC fun _ hS => gH hS.2 nB.2.2.2.2.1) (⟨kW.row, (H4.ab kW.fl.below).aC⟩) ?_
  refine kP 5 w.heap.size 2 (⟨kW.row, (H4.ab kW.fl.below).aC⟩) ?_
  refine tM 6 _ rfl (yC fun _ hS => gH hS.2 nB.2.2.2.2.1) (⟨kW.row, (H4.ab kW.fl.below).aC⟩) ?_
  refine kP 7 w.heap.size 3 (⟨kW.row, (H4.ab kW.fl.below).aC⟩) ?_
  refine tM 8 _ rfl (yC fun _ hS => gH hS.2 nB.2.2.2.2.2) (⟨kW.row, (H4.ab kW.fl.below).aC⟩) ?_
  refine kI 9 (cW (TD _) ?_)
  rintro e v11 ⟨A11, rfl, Iu, IA⟩
  have Zm := iD (cn.new kW.Rn cV (by rw [aE]; exact uY) Iu)
  have yd := iD (kW.ab IA)
  clear Iu IA
  refine rX ⟨yd.row, (H4.ab yd.fl.below).aC⟩ ?_
  refine kI 10 (cW (UI (X7 L m7) _ y6 yd.ra yd.Rn A11 Zm.rd) ?_)
  rintro e tC ⟨AT, rfl, Vr, jq⟩
  rw [← uw]
  have uF := iD Vr
  have nC := iD (yd.ab jq)
  clear Vr jq
  refine rX ⟨nC.row, (H4.ab nC.fl.below).aC⟩ ?_
  refine tK 11 (.tuple #[.agg (xa AT G), .int .i64 0]) (⟨nC.row, (H4.ab nC.fl.below).aC⟩) ?_
  refine kA 12 (xa AT G) (⟨nC.row, (H4.ab nC.fl.below).aC⟩) ?_
  refine kN 13 0 (⟨nC.row, (H4.ab nC.fl.below).aC⟩) ?_
  refine kL ?_
  refine fO rfl (by rfl) rfl 35 _ _ rfl m7 (xa AT G) _ rfl rfl 35 nC.row (pv (aQ _ _)) ((aQ _ _).trans (aQ _ _).symm) (mE _ _) ?_
  have TQ := iD (nC.put uj uF)
  generalize tC.setRow m7 (xa AT G) = ZN at TQ ⊢
  refine vN 15 0 trivial ?_
  refine wD ?_
  have d0 := (cell_of_row ZN w.heap.size 0 Z1 23 (0, 0) (H4.ab TQ.fl.below).aC).trans nB.2.2.1
  go_upto_region 12 with (fail)
  go_wp2_with (fail)
  refine (uI TQ.fl).mono ?_
  rintro e yj ⟨S, K, rfl, Lu, Wu, Xc, Xb, Xa, Vy⟩
  obtain ⟨R7, Vu⟩ := TQ.opened Lu Wu Xc Xb Xa
  obtain ⟨L2, hL2⟩ : ∃ z, ({ L with E := fun g => L.E g ∨ g = K.D } : Lc) = z := ⟨_, rfl⟩
  have qg : L2.d = L.d := by rw [← hL2]
  rw [hL2] at Lu R7
  have J8 := iD qg
  have Tx := iD Lu
  have To := iD R7
  have MI := iD Vu
  have aa3 := iD Vy
  have Xp : Hid (yj.heap[w.heap.size]? = some (.cells Z1 23 (0, 0))) := (H4.ab Lu.st.fl.below).aC
  clear hL2 qg Lu R7 Vu Wu Xc Xb Xa Vy d0
  go_upto_region 13 with (fail)
  have d0 := (cell_of_row yj w.heap.size 0 Z1 23 (0, 0) Xp).trans nB.2.2.1
  refine wp_region_list ?_
  refine xr MI ?_
  refine wV (.pointer (some ⟨w.heap.size, 0, none⟩)) ?_
  refine wV (.int .i64 B) ?_
  refine cP (HRO (eu L2 S) _ AT To Tx.dY) ?_
  rintro e Kg ⟨vv, rfl, Wt, -, hye⟩
  obtain ⟨AV, rfl, W6, W8, W1, WY, WX, WW, Ll⟩ := hye MQ
  rw [AL] at Ll ⊢
  rw [MQ, ← Td]
  have Fv := iD Ll
  have AK : Hid (AV.ne = 0 ∧ AV.E = none ∧ AV.np = 0 ∧ AV.ce = 0 ∧ AV.P = none ∧ AV.cp = 0) := ⟨W6, W8, W1, WY, WX, WW⟩
  have MZ := iD Wt
  clear Ll hye W6 W8 W1 WY WX WW Wt d0
  refine rP ?_
  refine wV (.tuple #[.agg (ba AV b), .int .i64 0]) ?_
  refine wV (.agg (ba AV b)) ?_
  refine wV (.int .i64 0) ?_
  refine aaV rfl rfl ?_
  simp only [nm]
  refine Va rfl _ _ rfl rfl Kg.heap.size (ba AV b) rfl rfl zB (heap_alloc_new Kg _) (bC _ _) rfl (eX _ _) ?_
  have zZ : Below Kg.heap.size Kg ((Kg.alloc (.cells zB 45)).setRow Kg.heap.size (ba AV b)) := below_setRow (bV.alloc cV _) cV _
  have PD := iD (setRow_heap _ _ zB (ba AV b) 45 _ (heap_alloc_new Kg (.cells zB 45)))
  have Jz := iD zZ
  generalize (Kg.alloc (.cells zB 45)).setRow Kg.heap.size (ba AV b) = ZO at Jz PD ⊢
  clear zZ
  have Yc := iD ((Tx.ab MZ).ab Jz)
  have XK := iD ((To.below MZ).below Jz)
  have Jm := iD (Fv.below Jz)
  have Xu : Hid (ZO.heap[m7]? = some (.cells (xa AT G) 35 (0, 0))) := (Jz.block _ (Nat.lt_of_lt_of_le (Array.getElem?_eq_some_iff.1 MI).1 MZ.size)).trans ((MZ.block _ (Array.getElem?_eq_some_iff.1 MI).1).trans MI)
  generalize Kg.heap.size = m11 at PD ⊢
  have g5 : ∀ w9 : World, (binOp .eql 29 (.pointer (some ⟨K.D, 0, none⟩)) (.pointer none)).run prog w9 = .ok (.bool false) w9 := fun w9 => by kernel_rfl
  go_upto_region 16 with (fail)
  refine wp_region_list ?_
  refine wV (.pointer (some ⟨L.d, 0, none⟩)) ?_
  refine wV (.pointer (some ⟨K.D, 0, none⟩)) ?_
  refine xr Xu ?_
  refine jM PD ?_
  refine jt rfl 50 _ rfl [(0, .pointer (some ⟨L.d, 0, none⟩)), (1, .pointer (some ⟨K.D, 0, none⟩)), (2, .agg (xa AT G)), (3, .agg (ba AV b))] (by simp; exact ⟨rfl, rfl, rfl, rfl⟩) _ (O8 L.d K.D AT G AV b) ?_
  simp only [nm]
  refine aaT rfl _ rfl (bE L.d K.D (xa AT G) (ba AV b)) rfl ?_
  obtain ⟨v17, RX⟩ := ex (ZO.alloc (.cells (bE L.d K.D (xa AT G) (ba AV b)) 50))
  have VO := Pw.first (r := AV) (B := b) (V := bE L.d K.D (xa AT G) (ba AV b)) Yc ⟨Jm, fun _ => ⟨by rw [DF.1, AK.1, AK.2.1, AK.2.2.2.1]; exact QS.nil _ _ _, by rw [DF.1, AK.1]; rfl⟩, fun _ => .inl ⟨DF.2, AK.2.2.2.2.1, AK.2.2.1, AK.2.2.2.2.2⟩⟩ XK AK.2.1 RX
  rw [RX]
  clear RX
  generalize ZO.heap.size = p at VO ⊢
  have eW : Hid (∃ (L : Lc) (S : Sc) (K : Kc) (f : Fl) (b : Bk) (r : Rb) (y : Rc) (g : Fl), Pw w4 v17 L S K f b p (bE L.d K.D (xa y g) (ba r b)) r y g b ∧ fC f g ∧ jF f b (2 + ((0 : Nat) : Int))) := by
   rw [← J8] at VO
   exact ⟨_, _, _, _, _, _, _, _, VO, fC.refl G, Zs⟩
  clear VO
  simp only [nm]
  refine wV (.pointer (some ⟨p, 0, none⟩)) ?_
  clear GP H8 H9 nk kW yd nC TQ H6 Tx To MI aa3 Xp Fv AK MZ Jz Yc XK Jm Xu PD Bi Zm uF Zs uj DF MQ AL uY g5 q1
  go_upto_region 17 with (fail)
  go_wp2_with (fail)
  go_loopw [107] (fun i wr => ∃ j : Nat, j ≤ n ∧ i = .int .i64 j ∧ ∃ (L : Lc) (S : Sc) (K : Kc) (f : Fl) (b : Bk) (r : Rb) (y : Rc) (g : Fl), Pw w4 wr L S K f b p (bE L.d K.D (xa y g) (ba r b)) r y g b ∧ fC f g ∧ jF f b (2 + (j : Int))) (fun i _ => n - (intOf i).toNat)
  case atStart => exact ⟨0, Nat.zero_le _, rfl, eW⟩
  case round =>
   obtain ⟨j, hj, rfl, L9, S9, K9, f9, b9, r9, y9, g9, h1, h2, h3⟩ := hrel
   have XO := iD h1
   have HSI := iD h2
   have nj := iD h3
   have GO : Hid (bW w wr) := H4.below.trans (h1.bk.st.fl.below.mono H4.below.size)
   clear h1 h2 h3 eW
   by_cases aW : j < n
   ·obtain ⟨x, hx⟩ := getElem?_of_lt (l := l) (k := j) (by rw [HN]; exact aW)
    have T7 := gV x (List.mem_of_getElem? hx)
    obtain ⟨bb, off, hAe, cB, c0, c1, c2, c3⟩ := (HA.below GO cV).ev hx
    subst hAe
    have MH := iD T7
    have HC := iD (RM c0 c1 c2 c3)
    clear hx T7 c0 c1 c2 c3
    have Ba : (j : Int) < (n : Int) := oM
    go_upto_region 19 with (fail)
    refine wp_region_list ?_
    refine wV (.pointer (some ⟨bb, off + j * 4, none⟩)) ?_
    refine wpList_load_mid rfl 52 _ rfl bb (off + j * 4) rfl [.int .u8 x.k, .int .i64 x.a, .int .i64 x.b, .slice x.P x.q x.r] _ HC underlying52 rfl (z52 (C := z4) rfl) ?_
    simp only [nm]
    refine aaU rfl rfl ?_
    simp only [nm]
    obtain ⟨V, hV⟩ := ex (#[.int .u8 x.k, .int .i64 x.a, .int .i64 x.b, .slice x.P x.q x.r] : Array Value)
    have Ws : Below wr.heap.size wr ((wr.alloc (.cells z4 52)).setRow wr.heap.size #[.int .u8 x.k, .int .i64 x.a, .int .i64 x.b, .slice x.P x.q x.r]) := below_setRow (bV.alloc cV _) cV _
    have UF := iD (setRow_heap _ _ z4 #[.int .u8 x.k, .int .i64 x.a, .int .i64 x.b, .slice x.P x.q x.r] 52 _ (heap_alloc_new wr (.cells z4 52)))
    refine wpList_store_rowTo rfl 52 _ _ rfl rfl wr.heap.size #[.int .u8 x.k, .int .i64 x.a, .int .i64 x.b, .slice x.P x.q x.r] rfl rfl 52 z4 (heap_alloc_new wr _) (z52 rfl) rfl (by simp [Value.oneCell']) ?_
    have HPa := iD (XO.ab Ws)
    generalize (wr.alloc (.cells z4 52)).setRow wr.heap.size #[.int .u8 x.k, .int .i64 x.a, .int .i64 x.b, .slice x.P x.q x.r] = wa at HPa UF ⊢
    clear Ws hV
    generalize wr.heap.size = ma at UF ⊢
    have e0 := (cell_of_row wa ma 0 _ 52 (0, 0) UF).trans (show (#[Value.int .u8 x.k, .int .i64 x.a, .int .i64 x.b, .slice x.P x.q x.r] : Array Value)[0]? = some (.int .u8 x.k) from rfl)
    have e1 := (cell_of_row wa ma 1 _ 52 (0, 0) UF).trans (show (#[Value.int .u8 x.k, .int .i64 x.a, .int .i64 x.b, .slice x.P x.q x.r] : Array Value)[1]? = some (.int .i64 x.a) from rfl)
    have e2 := (cell_of_row wa ma 2 _ 52 (0, 0) UF).trans (show (#[Value.int .u8 x.k, .int .i64 x.a, .int .i64 x.b, .slice x.P x.q x.r] : Array Value)[2]? = some (.int .i64 x.b) from rfl)
    have e3 := (cell_of_row wa ma 3 _ 52 (0, 0) UF).trans (show (#[Value.int .u8 x.k, .int .i64 x.a, .int .i64 x.b, .slice x.P x.q x.r] : Array Value)[3]? = some (.slice x.P x.q x.r) from rfl)
    have V3 : (2 + (j : Int)) < 999000 := by have := HN.out; omega
    have HDO := iD (SY HPa HSI nj V3 x.k x.a x.b ⟨MH.k0, MH.k1⟩ MH.a0 MH.b0 x.P x.q x.r x.p ((MH.rp.below H4.below cV).more H4.below.size) MH.lp MH.sq MH.bp)
    go_wp2_with (fail)
    refine HDO.mono ?_
    rintro e wb ⟨L1, S1, K1, f1, b1, r1, y1, g1', rfl, sO, -, gC, We⟩
    have UL := iD sO
    have lW := iD gC
    have zl := iD We.pl
    clear sO gC We e0 e1 e2 e3
    go_wp2_with (fail)
    refine (Hi UL lW zl).mono ?_
    rintro e wc ⟨rfl, Um⟩
    have Tr := iD (UL.ab Um)
    clear Um
    go_wp2
    go_roundw
    case rel => exact ⟨j + 1, oM, by go_num, L1, S1, K1, f1, b1, r1, y1, g1', Tr.out, lW.out, by have := zl.out; rw [Int.add_assoc] at this; exact this⟩
    case measure => simp [intOf]; omega
   obtain rfl : j = n := oM
   go_wp2
   try go_ret
   exact ⟨rfl, GO⟩
end Go.Proofs.YtjdknddnanopaaaGreat
