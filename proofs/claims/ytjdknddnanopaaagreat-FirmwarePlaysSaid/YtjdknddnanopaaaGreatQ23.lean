/-
  Part 23 of the proof.
-/
import Derived.Test.YtjdknddnanopaaaGreatQ22
namespace Go.Proofs.YtjdknddnanopaaaGreat
open Go.RowKit Tryz
set_option maxRecDepth 100000
set_option maxHeartbeats 16000000
set_option linter.all false
variable {w : World} {S : Sc} {K : Kc} {B : Bk}
theorem Vl {ops : Array Oper} {rest : List Oper} {o : Oper} {a : Go.Act} {Q : Exit → Go.Act → World → Prop} {d D : Nat} {F C : Array Value} (nz : o.guard = none) (x : Operand) (ho : o.op = .load 45 x) (p : Nat) (hx : a.eval x = .pointer (some ⟨p, 8, none⟩)) (hw : w.heap[p]? = some (.cells (bE d D F C) 50 (0, 0))) (hF : F.size = 6) (hC : C.size = 26) 
 (h : wpList prog ops Q rest (a.put o.dst (.agg C)) w) : wpList prog ops Q (o :: rest) a w := by
 refine wpList_load_mid nz 45 x ho p 8 hx C.toList _ (F9 hw hF hC) underlying45 rfl (by rw [Array.length_toList]; exact gE hC) ?_
 rw [Array.toArray_toList]
 exact h
theorem Hi {w0 : World} {L : Lc} {f g : Fl} {b : Bk} {p : Nat} {r : Rb} {y : Rc} {n : Int} (h : Pw w0 w L S K f b p (bE L.d K.D (xa y g) (ba r b)) r y g b) (hs : fC f g) (hp : jF f b n) :
 Calls prog 18 #[.pointer (some ⟨p, 0, none⟩)] w fun e w' => e = .returned (.bool true) ∧ bW w w' := by
 obtain ⟨b9, o9, tY, aW, fB⟩ := km h.rk.v hp.ok.JK
 have hi := hs.img
 have Z9 := hs.aq
 obtain ⟨N, hN⟩ := ex f.img.length
 obtain ⟨M, hM⟩ := ex f.aq.length
 obtain ⟨r1, qR⟩ := ex (sA b).1
 obtain ⟨r2, oF⟩ := ex (sA b).2
 obtain ⟨vt, JL⟩ := ex (aU b 1)
 obtain ⟨vk, Lj⟩ := ex (aU b 2)
 have HP := iD h
 have uq := iD (fun (wr : World) (hz : bo w0 wr L S K f b) => rh hz hp.ok)
 have Dk := iD (fun (wr : World) (hz : gP (eu L S) w0.heap.size wr r b g.pg) => Hm hz.v hp.ok)
 have vb := iD (fun (wr : World) (hz : bo w0 wr L S K f b) => EH hz hp.ok)
 rw [qR, oF] at uq Dk
 rw [JL, Lj] at vb
 have xP : M ≤ maxLen := by
  have := hp.fo.b2
  unfold maxLen
  omega
 have Jv : Hid (∀ W', bW w W' → Calls prog 13 #[.pointer (some ⟨L.d, 0, none⟩)] W' fun e w' => ∃ A c, e = .returned (.slice A N c) ∧ (convert 32 9 (.slice A N c)).run prog w' = .ok (.string (strOfNums f.img)) w' ∧ bW w w') := fun W' cU => by
  refine (Ii (h.ab cU).bk.st.fl).mono ?_
  rintro e w' ⟨v', rfl, ho, hb⟩
  obtain ⟨A', c', rfl, h1, h2, hr⟩ := bL ho
  rw [hN]
  exact ⟨A', c', rfl, lN hr hN, cU.trans (hb.mono cU.size)⟩
 have Np : Hid (∀ W', bW w W' → Calls prog 72 #[.pointer (some ⟨L.d, 0, none⟩)] W' fun e w' => ∃ A c, e = .returned (.slice A M c) ∧ Rd w' w'.heap.size A (aw f.aq) ∧ bW w w') := fun W' cU => by
  refine (Kf (h.ab cU).bk.st.fl).mono ?_
  rintro e w' ⟨v', rfl, ho, hb⟩
  obtain ⟨A', c', rfl, h1, h2, hr⟩ := bL ho
  rw [hM]
  exact ⟨A', c', rfl, hr, cU.trans (hb.mono cU.size)⟩
 have HIN : Hid (∀ W', bW w W' → ∀ A c, Rd W' W'.heap.size A (aw f.aq) → Calls prog 71 #[.slice A M c, .slice y.B M y.d] W' fun e w' => e = .returned (.bool true) ∧ bW w w') := fun W' cU A c hr => by
  have lS := (h.ab cU).ra.b.rd
  rw [Z9] at lS
  refine (Lb A y.B M M c y.d f.aq f.aq W' hr lS hM hM xP xP).mono ?_
  rintro e w' ⟨rfl, q, rfl⟩
  exact ⟨by rw [decide_eq_true rfl], Below.drewN cU q⟩
 have ze : Hid (∀ W', bW w W' → (W'.cell? ⟨p, 0, none⟩ = some (.pointer (some ⟨L.d, 0, none⟩)) ∧ W'.cell? ⟨p, 1, none⟩ = some (.pointer (some ⟨K.D, 0, none⟩)) ∧ W'.cell? ⟨p, 14, none⟩ = some (.slice (some ⟨b9, o9, none⟩) 9 r.q.c3) ∧ W'.cell? ⟨b9, o9 + 1, none⟩ = some (.int .i64 vt) ∧ W'.cell? ⟨b9, o9 + 2, none⟩ = some (.int .i64 vk) ∧ W'.cell? ⟨p, 2, none⟩ = some (.slice y.A N y.c) ∧ W'.cell? ⟨p, 4, none⟩ = some (.slice y.B M y.d) ∧ (convert 32 9 (.slice y.A N y.c)).run prog W' = .ok (.string (strOfNums f.img)) W')) := fun W' cU => by
  have hl := h.ab cU
  have hc := fun j => cell_of_row W' p j _ 50 (0, 0) hl.row
  refine ⟨(hc 0).trans qI, (hc 1).trans dN, ?_, ?_, ?_, ?_, ?_, ?_⟩
  ·rw [hc 14, gR (aQ _ _) 6]
   show some (Value.slice r.q.Q3 b.st.an.length r.q.c3) = _
   rw [tY, hp.ok.JK]
  ·rw [cU.cell (p := ⟨b9, o9 + 1, none⟩) aW, fB 1 oM, ← JL]
   rfl
  ·rw [cU.cell (p := ⟨b9, o9 + 2, none⟩) aW, fB 2 oM, ← Lj]
   rfl
  ·rw [hc 2, zC (aQ _ _) 0 oM]
   show some (Value.slice y.A g.img.length y.c) = _
   rw [hi, hN]
  ·rw [hc 4, zC (aQ _ _) 2 oM]
   show some (Value.slice y.B g.aq.length y.d) = _
   rw [Z9, hM]
  have := hl.ra.a.rd
  rw [hi] at this
  exact lN this hN
 clear h hs hp tY fB hi Z9 hN hM qR oF JL Lj xP
 obtain ⟨c0, c1, -⟩ := ze w bV
 go_enter func18, ntmps18
 go_upto_region 1 with (fail)
 go_wp2_with (fail)
 refine (uq _ HP.bk).mono ?_
 rintro e w1 ⟨rfl, dB⟩
 have zm := iD dB
 have UL := iD (HP.ab dB)
 clear dB c0 c1
 go_upto_region 2 with (fail)
 refine wp_region_list ?_
 refine wV (.pointer (some ⟨p, 0, none⟩)) ?_
 refine wV (.pointer (some ⟨p, 0, none⟩)) ?_
 refine wV (.pointer (some ⟨p, 8, none⟩)) ?_
 refine Vl rfl _ rfl p rfl UL.row (aQ _ _) (bC _ _) ?_
 simp only [nm]
 refine cP (Dk _ UL.rk) ?_
 rintro e w2 ⟨rfl, dZ⟩
 have fK := iD (zm.trans (dZ.mono zm.size))
 have Tr := iD (UL.ab dZ)
 clear dZ
 refine rP ?_
 obtain ⟨c0, c1, -⟩ := ze w2 fK
 go_wp2_with (fail)
 refine (vb _ Tr.bk).mono ?_
 rintro e w3 ⟨rfl, gL⟩
 have jd := iD (fK.trans (gL.mono fK.size))
 clear gL c0 c1
 go_upto_region 4 with (fail)
 have k0 := ze w3.drew (Below.drew jd)
 go_region_held (fun w' => w'.cell? ⟨p, 0, none⟩ = some (.pointer (some ⟨L.d, 0, none⟩)) ∧ w'.cell? ⟨p, 1, none⟩ = some (.pointer (some ⟨K.D, 0, none⟩)) ∧ w'.cell? ⟨p, 14, none⟩ = some (.slice (some ⟨b9, o9, none⟩) 9 r.q.c3) ∧ w'.cell? ⟨b9, o9 + 1, none⟩ = some (.int .i64 vt) ∧ w'.cell? ⟨b9, o9 + 2, none⟩ = some (.int .i64 vk) ∧ w'.cell? ⟨p, 2, none⟩ = some (.slice y.A N y.c) ∧ w'.cell? ⟨p, 4, none⟩ = some (.slice y.B M y.d) ∧ (convert 32 9 (.slice y.A N y.c)).run prog w' = .ok (.string (strOfNums f.img)) w') (first | exact k0 | exact k9 | exact k8 | exact k7) (first
  | (go_at_call 13; with_reducible refine (Jv.out _ (Below.drew jd.out)).mono ?_; rintro e w9 ⟨A9, c9, rfl, t9, lS⟩; have k9 := ze.out w9 lS)
  | (go_at_call 72; with_reducible refine (Np.out _ lS).mono ?_; rintro e wa ⟨Aa, ca, rfl, VN, Ws⟩; have k8 := ze.out wa Ws)
  | (go_at_call 71; with_reducible refine (HIN.out _ Ws Aa ca VN).mono ?_; rintro e wb ⟨rfl, nA⟩; have k7 := ze.out wb nA))
 all_goals
  go_wp2
  try go_ret
  exact ⟨rfl, nA⟩
theorem Hq {G : Fl} {first k : Nat} {v : Int} {img : List Int} (h : GL G first k B v img) : jF G B 2 := by
 have hd := h.up.dn
 obtain ⟨bs, JS⟩ := ex B.st
 have hn := h.nb
 rw [JS] at hn
 have Oi : B.au = false := by rw [hn]; rfl
 have Gw : B.erase = [] := by rw [hn]; rfl
 have YU : B.data = none := by rw [hn]; rfl
 have xM : B.bh = false := by rw [hn]; rfl
 have hJ : jJ G B 2 := ⟨h.ok, h.up.ok, fun _ _ => ⟨h.fr.sv.sJ.1, by rw [xM, h.fr.bu]⟩, fun _ => hd, ⟨none, h.fr.sv.JJ⟩, fun e he => (by rw [Gw] at he; cases he), fun d kX => (by rw [YU] at kX; cases kX), h.sq, fun hu => (by rw [Oi] at hu; cases hu)⟩
 refine .of hJ (by rw [hn]; exact KX _ _ _ _) (fun _ => ⟨fun e => (by rw [Oi] at e; cases e), fun _ => ⟨Gw, YU⟩, fun e he => (by rw [Gw] at he; cases he)⟩)
section
variable {W0 w w' : World} {L : Lc} {S : Sc} {K : Kc} {f g : Fl} {B : Bk} {r : Rb} {y : Rc} {V : Array Value}
theorem Pw.first (hk : bo W0 w L S K f B) (hr : gP (eu L S) W0.heap.size w r B g.pg) (hy : cf (eu L S) w y g) (hE : r.E = none) (hW : w.alloc (.cells V 50) = w') : Pw W0 w' { L with E := fun b => L.E b ∨ b = w.heap.size } S K f B w.heap.size V r y g B := by
 subst hW
 have hb : bW w (w.alloc (.cells V 50)) := bV.alloc cV _
 have hs : (w.alloc (.cells V 50)).heap.size = w.heap.size + 1 := World.size_alloc w _
 have hN : ∀ b, b < w.heap.size → (L.E b ∨ b = w.heap.size) → L.E b := fun b aW h => h.elim id (fun e => oM)
 have hX : ∀ b, b < w.heap.size → eu { L with E := fun b => L.E b ∨ b = w.heap.size } S b → eu L S b := fun b aW h => h.elim .inl (fun e => .inr (hN b aW e))
 have hk' := hk.G9 (Y := fun _ => False) (fun _ h => h.elim) (.ak hb) (hk.st.fl.below.trans (hb.mono hk.n0)) (fun b => L.E b ∨ b = w.heap.size) (fun b h => h.elim (fun h => Nat.lt_of_lt_of_le (hk.eb h) hb.size) (fun e => oM)) hN (fun _ h => .inl h)
 exact ⟨hk', (hr.dQ hX).below hb, (hy.nM hX).below hb, heap_alloc_new w _, .inr rfl, fun h => Nat.lt_irrefl _ (hk.dY _ (hk.sH _ h)), hk.n0, fun k h => by rw [hE] at h; cases h⟩
def X7 (L : Lc) (m : Nat) (b : Nat) : Prop := b = L.d ∨ b = L.gi ∨ b = L.gw ∨ L.E b ∨ b = m
structure Pf (W0 w : World) (L : Lc) (f : Fl) (m : Nat) (y : Rc) (g : Fl) : Prop where
 fl : bB W0 w L f
 ra : cf (X7 L m) w y g
 row : w.heap[m]? = some (.cells (xa y g) 35 (0, 0))
 nd : m ≠ L.d ∧ m ≠ L.gi ∧ m ≠ L.gw ∧ ¬ L.E m
 w0 : W0.heap.size ≤ m
variable {m : Nat} {f' g' : Fl} {y' : Rc}
theorem Pf.lt (h : Pf W0 w L f m y g) : m < w.heap.size := (Array.getElem?_eq_some_iff.1 h.row).1
theorem Pf.Rn (h : Pf W0 w L f m y g) : ∀ b, X7 L m b → b < w.heap.size := fun b hb => by
 rcases hb with rfl | rfl | rfl | hb | rfl
 ·exact h.fl.ld
 ·exact h.fl.bi.2
 ·exact h.fl.bw.2
 ·exact h.fl.eb b hb
 exact h.lt
theorem Pf.ab (h : Pf W0 w L f m y g) (hb : bW w w') : Pf W0 w' L f m y g :=
 ⟨h.fl.ab hb, h.ra.below hb, (hb.block _ h.lt).trans h.row, h.nd, h.w0⟩
theorem Pf.prog (h : Pf W0 w L f m y g) (hf : bB W0 w' L f') (ho : cE L w w') : Pf W0 w' L f' m y g := by
 have hx : ah (fun b => b = L.d ∨ b = L.gi ∨ b = L.gw) w w' := .j9 ho ⟨.inl rfl, .inr (.inl rfl), .inr (.inr rfl)⟩
 refine ⟨hf, h.ra.ao (hx.more (fun b hb => ?_)), (hx.block _ h.lt (fun e => ?_)).trans h.row, h.nd, h.w0⟩
 ·rcases hb with e | e | e
  ·exact .inl e
  ·exact .inr (.inl e)
  exact .inr (.inr (.inl e))
 rcases e with e | e | e
 ·exact h.nd.1 e
 ·exact h.nd.2.1 e
 exact h.nd.2.2.1 e
theorem Pf.put (h : Pf W0 w L f m y g) (hp : f.az = []) (hy : cf (X7 L m) w y' g') : Pf W0 (w.setRow m (xa y' g')) L f m y' g' := by
 have ho : ah (fun b => b = m) w (w.setRow m (xa y' g')) := ah.row w m _ rfl
 have hb : bW W0 (w.setRow m (xa y' g')) := below_setRow h.fl.below h.w0 _
 have hf := h.fl.aside hb ho (fun e => h.nd.1 e.symm) (fun e => h.nd.2.1 e.symm) (fun e => h.nd.2.2.1 e.symm) (fun j => cF (ho.block L.d h.fl.ld (fun e => h.nd.1 e.symm))) (dw h.fl.oi (ho.block L.gi h.fl.bi.2 (fun e => h.nd.2.1 e.symm))) (dw h.fl.ow (ho.block L.gw h.fl.bw.2 (fun e => h.nd.2.2.1 e.symm))) (by rw [hp]; exact fun e => absurd rfl e)
 exact ⟨hf, hy.ao (ho.more (fun b hb => .inr (.inr (.inr (.inr hb))))), setRow_heap _ _ _ _ 35 _ h.row, h.nd, h.w0⟩
theorem Pf.opened (h : Pf W0 w L f m y g) (hk : bo W0 w' { L with E := fun b => L.E b ∨ b = K.D } S K f B) (hb : bW w w') (h1 : w.heap.size ≤ S.D) (h2 : w.heap.size ≤ S.G) (h3 : w.heap.size ≤ K.D) :
 cf (eu { L with E := fun b => L.E b ∨ b = K.D } S) w' y g ∧ w'.heap[m]? = some (.cells (xa y g) 35 (0, 0)) := by
 refine ⟨(h.ra.nM (fun b aW hy => ?_)).below hb, (hb.block _ h.lt).trans h.row⟩
 rcases hy with (e | e | e | e | e) | e | e
 ·exact .inl e
 ·exact .inr (.inl e)
 ·exact .inr (.inr (.inl e))
 ·omega
 ·omega
 ·exact .inr (.inr (.inr (.inl e)))
 omega
end
end Go.Proofs.YtjdknddnanopaaaGreat
