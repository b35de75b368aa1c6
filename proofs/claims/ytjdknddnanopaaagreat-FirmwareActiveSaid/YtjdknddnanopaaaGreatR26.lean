/-
  Part 26 of the proof.
-/
import Derived.Test.YtjdknddnanopaaaGreatR23
import Derived.Test.YtjdknddnanopaaaGreatR25
namespace Go.Proofs.YtjdknddnanopaaaGreat
open Go.RowKit Tryz
set_option maxRecDepth 100000
set_option maxHeartbeats 16000000
set_option linter.all false
variable {w : World} {o : Oper} {a : Go.Act} {Q : Exit → Go.Act → World → Prop} {f : Fl}
theorem ZK {C : Array Value} (h : C.size = 4) : (prog.info? 23).map (·.size) = some C.size := by
 rw [h]
 kernel_rfl
section
variable {ops : Array Oper} {rest : List Oper} {o : Oper} {a : Go.Act} {w : World} {Q : Exit → Go.Act → World → Prop}
theorem aaZ (oK : o.guard = none) (ho : o.op = .alloc 35) (h : wpList prog ops Q rest (a.put o.dst (.pointer (some ⟨w.heap.size, 0, none⟩))) (w.alloc (.cells zF 35))) : wpList prog ops Q (o :: rest) a w :=
 wpList_plain oK fun K hK => by
  have he : (execOp a.eval o).run prog w = .ok (.value (.pointer (some ⟨w.heap.size, 0, none⟩))) (w.alloc (.cells zF 35)) := by
   unfold execOp
   simp only [ho]
   go_simp
  unfold Oper.wp
  rw [he]
  exact hK _ _ h
theorem aaY (oK : o.guard = none) (ho : o.op = .alloc 45) (h : wpList prog ops Q rest (a.put o.dst (.pointer (some ⟨w.heap.size, 0, none⟩))) (w.alloc (.cells zB 45))) : wpList prog ops Q (o :: rest) a w :=
 wpList_plain oK fun K hK => by
  have he : (execOp a.eval o).run prog w = .ok (.value (.pointer (some ⟨w.heap.size, 0, none⟩))) (w.alloc (.cells zB 45)) := by
   unfold execOp
   simp only [ho]
   go_simp
  unfold Oper.wp
  rw [he]
  exact hK _ _ h
end
theorem R3 {b o : Nat} {v0 v1 v2 v3 : Value} (c0 : w.cell? ⟨b, o, none⟩ = some v0) (c1 : w.cell? ⟨b, o + 1, none⟩ = some v1) (c2 : w.cell? ⟨b, o + 2, none⟩ = some v2) (c3 : w.cell? ⟨b, o + 3, none⟩ = some v3) : w.rangeAt b o [v0, v1, v2, v3] := fun i u hu => by
 match i, hu with
 | 0, hu => obtain rfl : v0 = u := by simpa using hu
            exact c0
 | 1, hu => obtain rfl : v1 = u := by simpa using hu
            exact c1
 | 2, hu => obtain rfl : v2 = u := by simpa using hu
            exact c2
 | 3, hu => obtain rfl : v3 = u := by simpa using hu
            exact c3
 | i + 4, hu => simp at hu
abbrev z4 : Array Value := #[.int .u8 0, .int .i64 0, .int .i64 0, .slice none 0 0]
theorem aaX {ops : Array Oper} {rest : List Oper} (oK : o.guard = none) (ho : o.op = .alloc 52) (h : wpList prog ops Q rest (a.put o.dst (.pointer (some ⟨w.heap.size, 0, none⟩))) (w.alloc (.cells z4 52))) : wpList prog ops Q (o :: rest) a w :=
 wpList_plain oK fun K hK => by
  have he : (execOp a.eval o).run prog w = .ok (.value (.pointer (some ⟨w.heap.size, 0, none⟩))) (w.alloc (.cells z4 52)) := by
   unfold execOp
   simp only [ho]
   go_simp
  unfold Oper.wp
  rw [he]
  exact hK _ _ h
theorem Pk (d D : Nat) (y : Rc) (g : Fl) (r : Rb) (b : Bk) : prog.built 50 [(0, .pointer (some ⟨d, 0, none⟩)), (1, .pointer (some ⟨D, 0, none⟩)), (2, .agg (xa y g)), (3, .agg (ba r b))] = some (bF d D (xa y g) (ba r b)) := by
 kernel_rfl
theorem aaW {ops : Array Oper} {rest : List Oper} (oK : o.guard = none) (x : Operand) (ho : o.op = .box 50 x) (V : Array Value) (hx : a.eval x = .agg V) (h : wpList prog ops Q rest (a.put o.dst (.pointer (some ⟨w.heap.size, 0, none⟩))) (w.alloc (.cells V 50))) : wpList prog ops Q (o :: rest) a w :=
 wpList_plain oK fun K hK => by
  have he : (execOp a.eval o).run prog w = .ok (.value (.pointer (some ⟨w.heap.size, 0, none⟩))) (w.alloc (.cells V 50)) := by
   unfold execOp
   simp only [ho, hx]
   go_simp
  unfold Oper.wp
  rw [he]
  exact hK _ _ h
theorem Pf.first {W0 : World} {L : Lc} {g : Fl} {y : Rc} (hf : bB W0 w L f) (hy : ca (fun b => b = L.d ∨ b = L.gi ∨ b = L.gw ∨ L.E b) w y g) : Pf W0 ((w.alloc (.cells zF 35)).setRow w.heap.size (xa y g)) L f w.heap.size y g := by
 have hb : Below w.heap.size w ((w.alloc (.cells zF 35)).setRow w.heap.size (xa y g)) := below_setRow (bV.alloc cV _) cV _
 have h1 := hf.ld
 have h2 := hf.bi.2
 have h3 := hf.bw.2
 refine ⟨hf.ab hb, (hy.nl (fun b aY hx => ?_)).below hb, setRow_heap _ _ zF _ 35 _ (heap_alloc_new w _), ⟨oM, oM, oM, fun e => Nat.lt_irrefl _ (hf.eb _ e)⟩, hf.below.size⟩
 rcases hx with e | e | e | e | e
 ·exact .inl e
 ·exact .inr (.inl e)
 ·exact .inr (.inr (.inl e))
 ·exact .inr (.inr (.inr e))
 omega
theorem O1 {f' : Fl} {b : Bk} (h : G8 f f' b) (s P : Nat) (hP : f.pg = P) (hs : aV b 0 = (s : Int)) (z n : Nat) (hz : z = 64 * (cE b s * P)) (hn : n = 64 * (b.k * P)) : (f'.img.drop z).take n = (f.img.drop z).take n := by
 subst hP
 apply List.ext_getElem?
 intro i
 simp only [List.getElem?_take, List.getElem?_drop]
 by_cases hi : i < n
 ·rw [iP hi, iP hi]
  have e0 : (aV b 0).toNat = s := by rw [hs]; rfl
  have h1 := h.pg ((z + i) / 64) (by rw [e0]; omega) (by rw [e0, Nat.add_mul]; omega)
  have h2 := congrArg (fun l : List Int => l[(z + i) % 64]?) h1
  unfold aB at h2
  simp only [List.getElem?_take, List.getElem?_drop] at h2
  rw [iP (Nat.mod_lt _ oM), iP (Nat.mod_lt _ oM), Nat.div_add_mod] at h2
  exact h2
 rw [iN hi, iN hi]
structure Pq (W0 w : World) (L : Lc) (S : Sc) (K : Kc) (f : Fl) (b : Bk) (m : Nat) (y : Rc) (g : Fl) : Prop where
 bk : bo W0 w L S K f b
 ra : ca (ea L S) w y g
 row : w.heap[m]? = some (.cells (xa y g) 35 (0, 0))
 mE : L.E m
 mN : ¬ pt L S K m
 m0 : W0.heap.size ≤ m
section
variable {W0 w w' : World} {L : Lc} {S : Sc} {K : Kc} {f g g' : Fl} {b : Bk} {m : Nat} {y y' : Rc}
theorem Pq.first (hk : bo W0 w L S K f b) (hy : ca (ea L S) w y g) : Pq W0 ((w.alloc (.cells zF 35)).setRow w.heap.size (xa y g)) { L with E := fun b => L.E b ∨ b = w.heap.size } S K f b w.heap.size y g := by
 have hb : Below w.heap.size w ((w.alloc (.cells zF 35)).setRow w.heap.size (xa y g)) := below_setRow (bV.alloc cV _) cV _
 have hr := setRow_heap _ _ zF (xa y g) 35 _ (heap_alloc_new w (.cells zF 35))
 obtain ⟨V, hV⟩ := ex ((w.alloc (.cells zF 35)).setRow w.heap.size (xa y g))
 rw [hV] at hb hr ⊢
 have hl : w.heap.size < V.heap.size := (Array.getElem?_eq_some_iff.1 hr).1
 have hN : ∀ b, b < w.heap.size → (L.E b ∨ b = w.heap.size) → L.E b := fun b aY h => h.elim id (fun e => oM)
 have hX : ∀ b, b < w.heap.size → ea { L with E := fun b => L.E b ∨ b = w.heap.size } S b → ea L S b := fun b aY h => h.elim .inl (fun e => .inr (hN b aY e))
 have hk' := hk.BA (Y := fun _ => False) (fun _ h => h.elim) (.ak hb) (hk.st.fl.below.trans (hb.mono hk.n0)) (fun b => L.E b ∨ b = w.heap.size) (fun b h => h.elim (fun h => Nat.lt_of_lt_of_le (hk.eb h) hb.size) (fun e => oM)) hN (fun _ h => .inl h)
 exact ⟨hk', (hy.nl hX).below hb, hr, .inr rfl, fun h => Nat.lt_irrefl _ (hk.cY _ (hk.qa _ h)), hk.n0⟩
theorem Pq.ab (h : Pq W0 w L S K f b m y g) (hb : bW w w') : Pq W0 w' L S K f b m y g :=
 ⟨h.bk.ab hb, h.ra.below hb, (hb.block _ (h.bk.eb h.mE)).trans h.row, h.mE, h.mN, h.m0⟩
theorem Pq.put (h : Pq W0 w L S K f b m y g) (hy : ca (ea L S) w y' g') : Pq W0 (w.setRow m (xa y' g')) L S K f b m y' g' := by
 have ho : ah (fun k => k = m) w (w.setRow m (xa y' g')) := ah.row w m _ rfl
 have hY : ∀ k, k = m → ea L S k := fun k hk => .inr (hk ▸ h.mE)
 have hk := h.bk.BA (Y := fun k => k = m) (fun k hk => ⟨hk ▸ h.mE, hk ▸ h.mN⟩) ho (below_setRow h.bk.st.fl.below h.m0 _) L.E (fun k hk => Nat.lt_of_lt_of_le (h.bk.eb hk) ho.size) (fun _ _ hk => hk) (fun _ hk => hk)
 exact ⟨hk, hy.ao (ho.more hY), setRow_heap _ _ _ _ 35 _ h.row, h.mE, h.mN, h.m0⟩
end
theorem active_any (s0 s1 s2 s3 : Int) (A : Option Addr) (n c : Nat) (l : List Ev) (w : World) (hA : Rd w w.heap.size A (sV l)) (hn : l.length = n) (qm : n ≤ c) (fQ : c ≤ maxLen) (dc : ∀ x ∈ l, x.ok w w.heap.size) :
 Calls prog 3 #[.agg #[.int .i64 s0, .int .i64 s1, .int .i64 s2, .int .i64 s3], .slice A n c] w fun e w' => e = .returned (.bool true) ∧ bW w w' := by
 have g1 := ne_nil
 have g3 := eq_nil
 obtain ⟨C, hC⟩ : ∃ C : Nat, dN s0 0 1 = C := ⟨(dN s0 0 1).toNat, by unfold dN; omega⟩
 have jf : C ≤ 1 := by unfold dN at hC; omega
 obtain ⟨B, hB⟩ := ex (4 + 2 * C)
 obtain ⟨P, hP⟩ : ∃ P : Nat, dN s1 2 4 = P := ⟨(dN s1 2 4).toNat, by unfold dN; omega⟩
 have Nt : 2 ≤ P ∧ P ≤ 4 := by unfold dN at hP; omega
 obtain ⟨sd, hS⟩ : ∃ S : Nat, dN s2 1 1073741824 = S := ⟨(dN s2 1 1073741824).toNat, by unfold dN; omega⟩
 have ON : 1 ≤ sd ∧ sd ≤ 1073741824 := by unfold dN at hS; omega
 obtain ⟨k, hk⟩ := ex (1 + C)
 have Nu : B = 2 * k + 2 := oM
 obtain ⟨Q, hQ⟩ := ex ((B - 2) / 2 * P * 64)
 have hQ1 : 128 ≤ Q ∧ Q ≤ 512 := by
  have e : (B - 2) / 2 = k := oM
  rw [e] at hQ
  have h1 := Nat.mul_le_mul (show 1 ≤ k by omega) Nt.1
  have h2 := Nat.mul_le_mul (show k ≤ 2 by omega) Nt.2
  omega
 obtain ⟨N, hN⟩ : ∃ N : Nat, dN s3 1 (Q : Int) = N := ⟨(dN s3 1 (Q : Int)).toNat, by unfold dN; omega⟩
 have EL : 1 ≤ N ∧ N ≤ Q := by unfold dN at hN; omega
 have Y9 : 4 ≤ B ∧ B ≤ 6 := oM
 have Lt : 1 ≤ k ∧ k ≤ 2 := oM
 have WG : k * P * 64 = Q := by rw [← hQ, show (B - 2) / 2 = k by omega]
 obtain ⟨img, gG⟩ := ex (eT sd N)
 have qn : img.length = N := by rw [← gG]; exact cS _ _
 have Lv : Bytes img := by rw [← gG]; exact iC _ _
 have gE := zK (b := B) (p := P) oM oM oM oM
 have kC : (dT B P).ar.length = B := by unfold dT; simp
 have hsz : aM (dT B P) (2 * k + 2) = k * P * 64 := by
  unfold aM
  rw [show (2 * k + 2 - 2) / 2 = k by omega]
  rfl
 obtain ⟨fA, js, qH⟩ := zC (first := 0) (k := k) gE Lt.1 oM oM Nt.1 Lv (by rw [qn]; exact EL.1) (by rw [qn, hsz, WG]; exact EL.2) (v := (sd : Int)) ⟨oM, oM⟩
 have TG := iD (fun (X : Nat → Prop) (wr : World) (y : Rc) (h9 : ca X wr y (dT B P)) (hX : ∀ b, X b → b < wr.heap.size) (A9 : Option Addr) (hA9 : Rd wr wr.heap.size A9 (ag .u8 img)) => Ky h9 hX gE 0 k Lt.1 oM oM Nt.1 (sd : Int) ⟨oM, oM⟩ A9 N N img hA9 qn cV (by unfold maxLen; omega) Lv EL.1 (by rw [hsz, WG]; exact EL.2) 0 (B : Int) rfl (by rw [Nu]))
 simp only [← uk] at TG
 obtain ⟨G, hG⟩ := ex (iJ (dT B P) 0 (2 * k + 2) sd (eS img) img).2.1
 rw [hG] at fA js qH TG
 obtain ⟨b, hb⟩ := ex (dh G ((0 : Nat) : Int) ((2 * k + 2 : Nat) : Int))
 rw [hb] at fA
 have Zu := iD (Hu fA)
 have PO := iD (fun w => Hv k P Lt.1 Lt.2 Nt.1 Nt.2 sd N ON.1 ON.2 EL.1 (by rw [WG]; exact EL.2) w B Nu.symm G (by rw [gG, ← Nu]; rw [← Nu] at hG; exact hG) b hb)
 have xC : Hid (G.pg = P ∧ G.ar.length = B ∧ b.first = 0 ∧ b.aa = B) := ⟨js.p, js.w.trans kC, by rw [← hb]; rfl, by rw [← hb, Nu]; rfl⟩
 have DP : Hid (b.erase = [] ∧ b.data = none) := by rw [fA.nb]; exact ⟨rfl, rfl⟩
 have NC := iD (fun W => td (sd : Int) (N : Int) N (by unfold dN; omega) W)
 rw [gG] at NC
 have qX : eC G (0 : Int) (B : Int) = 0 := by have := fA.Vs; rw [← Nu] at this; exact this
 have V0 : dU G (0 : Int) (B : Int) = 0 := by have := fA.oe; rw [← Nu] at this; exact this
 have Nk : dh G (0 : Int) (B : Int) = b := by rw [← hb, ← Nu]; rfl
 have HRO := iD (fun (X : Nat → Prop) (wr : World) (y : Rc) (h9 : ca X wr y G) (hX : ∀ b, X b → b < wr.heap.size) => Ga h9 hX (0 : Int) (B : Int) (by unfold dI; omega) (by unfold dI; omega))
 simp only [← uk] at HRO
 have MR := iD V0
 have AL := iD Nk
 have uF := iD qn
 have WE := WG
 clear gG qn Lv gE kC hsz fA js qH hG hb qX V0 Nk WG
 have TV := iD (fun w => IQ s0 s1 s2 s3 C B P sd N hC hB hP hS (by rw [hQ]; exact hN) w)
 have Yb := iD (fun (wr : World) (hb : bW w wr) => Cg A n c l wr ((hA.below hb cV).more hb.size) hn qm fQ (fun x hx => O4 ((dc x hx).below hb cV) hb.size))
 obtain ⟨Z, hZ⟩ := ex (#[.int .i64 s0, .int .i64 s1, .int .i64 s2, .int .i64 s3] : Array Value)
 obtain ⟨Z1, WC⟩ := ex (#[.int .i64 B, .int .i64 P, .int .i64 sd, .int .i64 N] : Array Value)
 have HZ : Hid (Z.size = 4) := by rw [← hZ]; rfl
 have oy : Hid (Z1.size = 4 ∧ Z1.all (·.oneCell') = true ∧ Z1[0]? = some (.int .i64 B) ∧ Z1[1]? = some (.int .i64 P) ∧ Z1[2]? = some (.int .i64 sd) ∧ Z1[3]? = some (.int .i64 N)) := by rw [← WC]; exact ⟨rfl, by simp [Value.oneCell'], rfl, rfl, rfl, rfl⟩
 rw [hZ, WC] at TV
 rw [WC] at PO
 rw [hZ]
 have HQQ := iD WE
 clear hZ WC hC hP hS hN hQ WE
 obtain ⟨W, hW⟩ := ex (w.alloc (.cells Z 23))
 have H0 := iD (Fr.one hW)
 have HA := iD hA
 have gX := iD dc
 have HN := iD hn
 clear hA dc hn
 go_enter func3, ntmps3
 go_wp2_with (fail)
 try rw [hW]
 clear hW
 refine (uc _).mono ?_
 rintro e w1 ⟨rfl, dC⟩
 have H1 := iD (H0.ab dC)
 clear dC
 go_wp2_with (fail)
 refine (Yb _ H1.below).mono ?_
 rintro e w2 ⟨rfl, dP⟩
 have H2 := iD (H1.ab dP)
 clear dP
 obtain ⟨lg, QH⟩ := ex (vM l)
 have hlen : lg = false → l.length ≤ 200 := fun e => by
  rw [← QH] at e
  unfold vM at e
  have := of_decide_eq_false e
  omega
 rw [QH]
 clear QH
 cases lg with
 | true =>
  go_wp2_with (fail)
  refine (uc _).mono ?_
  rintro e w3 ⟨rfl, gV⟩
  go_wp2
  try go_ret
  exact ⟨rfl, (H2.ab gV).below⟩
 | false =>
  have hlen := hlen rfl
  go_upto_region 3 with (fail)
  refine wp_region_list ?_
  refine wpList_load_row rfl 23 _ rfl w.heap.size rfl 23 Z (0, 0) _ H2.aE underlying23 rfl (ZK HZ) ?_
  simp only [nm]
  refine cP (TV _) ?_
  rintro e w3 ⟨rfl, gV⟩
  have H3 := iD (H2.ab gV)
  clear gV
  refine rP ?_
  refine wpList_store_rowTo rfl 23 _ _ rfl rfl w.heap.size Z1 rfl rfl 23 Z H3.aE (ZK oy.1) (HZ.trans oy.1.symm) oy.2.1 ?_
  have H4 := iD (H3.BR Z1)
  generalize w3.setRow w.heap.size Z1 = w4 at H4 ⊢
  clear H0 H1 H2 H3
  have pD := iD Nu
  clear hB hk hlen Nu
  go_upto_region 4 with (fail)
  refine wp_region_list ?_
  refine wpList_load_row rfl 23 _ rfl w.heap.size rfl 23 Z1 (0, 0) _ H4.aE underlying23 rfl (ZK oy.1) ?_
  simp only [nm]
  refine cP (PO w4) ?_
  rintro e w5 ⟨W0, L, S, K, rfl, DF, lG⟩
  have pA := iD lG
  have wZ := iD (H4.ab DF)
  clear DF lG
  refine rP ?_
  refine wV (.tuple #[.pointer (some ⟨L.d, 0, none⟩), .pointer (some ⟨K.D, 0, none⟩), .bool true]) ?_
  refine wV (.pointer (some ⟨L.d, 0, none⟩)) ?_
  refine wV (.pointer (some ⟨K.D, 0, none⟩)) ?_
  refine wV (.bool true) ?_
  refine wV (.pointer (some ⟨L.d, 0, none⟩)) ?_
  refine wV (.pointer (some ⟨K.D, 0, none⟩)) ?_
  refine wV (.bool true) ?_
  have H5 := iD (wZ.ab pA.st.fl.below)
  go_upto_region 7 with (fail)
  have d0 := H5.cell0 0 oy.2.2.1
  have d1 := H5.cell0 1 oy.2.2.2.1
  refine wp_region_list ?_
  refine wV (.pointer (some ⟨w.heap.size, 0, none⟩)) ?_
  refine wV (.int .i64 B) ?_
  refine wV (.pointer (some ⟨w.heap.size, 1, none⟩)) ?_
  refine wV (.int .i64 P) ?_
  refine cP (KW (X := ea L S) B P w5 pA.cY oM oM oM oM) ?_
  rintro e w6 ⟨y6, rfl, Le, fB⟩
  rw [← uk]
  have FF := iD (Pq.first (pA.ab fB) Le)
  have HM := iD (heap_alloc_new w6 (.cells zF 35))
  clear Le fB d0 d1
  refine rP ?_
  refine wV (.tuple #[.agg (xa y6 (dT B P)), .int .i64 0]) ?_
  refine wV (.agg (xa y6 (dT B P))) ?_
  refine wV (.int .i64 0) ?_
  refine aaZ rfl rfl ?_
  simp only [nm]
  refine RT rfl _ _ rfl rfl w6.heap.size (xa y6 (dT B P)) rfl rfl zF HM (aT _ _) rfl (mF _ _) ?_
  obtain ⟨w7, hw7⟩ := ex ((w6.alloc (.cells zF 35)).setRow w6.heap.size (xa y6 (dT B P)))
  rw [hw7] at FF
  rw [hw7]
  obtain ⟨m7, hm7⟩ := ex w6.heap.size
  rw [hm7] at FF
  try rw [hm7]
  obtain ⟨L2, hL2⟩ : ∃ z, ({ L with E := fun b => L.E b ∨ b = m7 } : Lc) = z := ⟨_, rfl⟩
  have qp : L2.d = L.d := by rw [← hL2]
  rw [hL2] at FF
  have G4 := iD qp
  clear hw7 HM hm7 hL2 qp H5 pA
  refine wV (.int .i64 0) ?_
  go_upto_region 8 with (fail)
  have H8 := iD (FF.ab fY)
  refine mi (by kernel_rfl) (fun w' => w'.heap[m7]? = some (.cells (xa y6 (dT B P)) 35 (0, 0)) ∧ w'.heap[w.heap.size]? = some (.cells Z1 23 (0, 0))) 14 ?_
  refine tM 0 _ rfl (jT (fun _ hS => hS.1) ((aT _ _))) (⟨H8.row, (wZ.ab H8.bk.st.fl.below).aE⟩) ?_
  refine kP 1 w.heap.size 0 (⟨H8.row, (wZ.ab H8.bk.st.fl.below).aE⟩) ?_
  refine tM 2 _ rfl (yC fun _ hS => gQ hS.2 oy.2.2.1) (⟨H8.row, (wZ.ab H8.bk.st.fl.below).aE⟩) ?_
  refine kP 3 w.heap.size 2 (⟨H8.row, (wZ.ab H8.bk.st.fl.below).aE⟩) ?_
  refine tM 4 _ rfl (yC fun _ hS => gQ hS.2 oy.2.2.2.2.1) (⟨H8.row, (wZ.ab H8.bk.st.fl.below).aE⟩) ?_
  refine kP 5 w.heap.size 2 (⟨H8.row, (wZ.ab H8.bk.st.fl.below).aE⟩) ?_
  refine tM 6 _ rfl (yC fun _ hS => gQ hS.2 oy.2.2.2.2.1) (⟨H8.row, (wZ.ab H8.bk.st.fl.below).aE⟩) ?_
  refine kP 7 w.heap.size 3 (⟨H8.row, (wZ.ab H8.bk.st.fl.below).aE⟩) ?_
  refine tM 8 _ rfl (yC fun _ hS => gQ hS.2 oy.2.2.2.2.2) (⟨H8.row, (wZ.ab H8.bk.st.fl.below).aE⟩) ?_
  refine kI 9 (cW (NC _) ?_)
  rintro e v11 ⟨A11, rfl, Iy, IF⟩
  have Zo := iD (cn.new H8.bk.cY cV (by rw [aD]; exact uF) Iy)
  have H9 := iD (H8.ab IF)
  clear Iy IF
  refine rX ⟨H9.row, (wZ.ab H9.bk.st.fl.below).aE⟩ ?_
  refine kI 10 (cW (TG (ea L2 S) _ y6 H9.ra H9.bk.cY A11 Zo.rd) ?_)
  rintro e tz ⟨Bt, rfl, VC, jn⟩
  rw [← uk]
  have uA := iD VC
  have lM := iD (H9.ab jn)
  clear VC jn
  refine rX ⟨lM.row, (wZ.ab lM.bk.st.fl.below).aE⟩ ?_
  refine tK 11 (.tuple #[.agg (xa Bt G), .int .i64 0]) (⟨lM.row, (wZ.ab lM.bk.st.fl.below).aE⟩) ?_
  refine kA 12 (xa Bt G) (⟨lM.row, (wZ.ab lM.bk.st.fl.below).aE⟩) ?_
  refine kN 13 0 (⟨lM.row, (wZ.ab lM.bk.st.fl.below).aE⟩) ?_
  refine kL ?_
  refine fO rfl (by rfl) rfl 35 _ _ rfl m7 (xa Bt G) _ rfl rfl 35 lM.row (pF (aT _ _)) ((aT _ _).trans (aT _ _).symm) (mF _ _) ?_
  have pP := iD (lM.put uA)
  generalize tz.setRow m7 (xa Bt G) = YD at pP ⊢
  refine wD ?_
  have Xs : Hid (YD.heap[w.heap.size]? = some (.cells Z1 23 (0, 0))) := (wZ.ab pP.bk.st.fl.below).aE
  go_upto_region 9 with (fail)
  have d0 := (cell_of_row YD w.heap.size 0 Z1 23 (0, 0) Xs).trans oy.2.2.1
  refine wp_region_list ?_
  refine xt pP.row ?_
  refine wV (.pointer (some ⟨w.heap.size, 0, none⟩)) ?_
  refine wV (.int .i64 B) ?_
  refine cP (HRO (ea L2 S) _ Bt pP.ra pP.bk.cY) ?_
  rintro e Ke ⟨vv, rfl, Wx, -, hye⟩
  obtain ⟨AX, rfl, Xd, Xe, Xc, Xb, Xa, W8, Ll⟩ := hye MR
  rw [AL] at Ll ⊢
  rw [MR, ← Tv]
  have FC := iD Ll
  have AK : Hid (AX.ne = 0 ∧ AX.E = none ∧ AX.np = 0 ∧ AX.ce = 0 ∧ AX.P = none ∧ AX.cp = 0) := ⟨Xd, Xe, Xc, Xb, Xa, W8⟩
  have XP := iD (pP.ab Wx)
  clear Ll hye Xd Xe Xc Xb Xa W8 Wx d0
  refine rP ?_
  refine wV (.tuple #[.agg (ba AX b), .int .i64 0]) ?_
  refine wV (.agg (ba AX b)) ?_
  refine wV (.int .i64 0) ?_
  refine aaY rfl rfl ?_
  simp only [nm]
  refine Vl rfl _ _ rfl rfl Ke.heap.size (ba AX b) rfl rfl zB (heap_alloc_new Ke _) (bD _ _) rfl (eY _ _) ?_
  have Aa : Below Ke.heap.size Ke ((Ke.alloc (.cells zB 45)).setRow Ke.heap.size (ba AX b)) := below_setRow (bV.alloc cV _) cV _
  have PS := iD (setRow_heap _ _ zB (ba AX b) 45 _ (heap_alloc_new Ke (.cells zB 45)))
  have P9 := iD Aa
  generalize (Ke.alloc (.cells zB 45)).setRow Ke.heap.size (ba AX b) = v16 at P9 PS ⊢
  clear Aa
  have PN := iD (XP.ab P9)
  have Js := iD (FC.below P9)
  generalize Ke.heap.size = m11 at PS ⊢
  refine wV (.int .i64 0) ?_
  go_upto_region 10 with (fail)
  refine wp_region_list ?_
  refine wV (.pointer (some ⟨L.d, 0, none⟩)) ?_
  refine wV (.pointer (some ⟨K.D, 0, none⟩)) ?_
  refine xt PN.row ?_
  refine jM PS ?_
  refine jr rfl 50 _ rfl [(0, .pointer (some ⟨L.d, 0, none⟩)), (1, .pointer (some ⟨K.D, 0, none⟩)), (2, .agg (xa Bt G)), (3, .agg (ba AX b))] (by simp; exact ⟨rfl, rfl, rfl, rfl⟩) _ (Pk L.d K.D Bt G AX b) ?_
  simp only [nm]
  refine aaW rfl _ rfl (bF L.d K.D (xa Bt G) (ba AX b)) rfl ?_
  obtain ⟨YE, Sg⟩ := ex (v16.alloc (.cells (bF L.d K.D (xa Bt G) (ba AX b)) 50))
  have Uw := Pw.first (r := AX) (B := b) (V := bF L.d K.D (xa Bt G) (ba AX b)) PN.bk ⟨Js, fun _ => ⟨by rw [DP.1, AK.1, AK.2.1, AK.2.2.2.1]; exact QS.nil _ _ _, by rw [DP.1, AK.1]; rfl⟩, fun _ => .inl ⟨DP.2, AK.2.2.2.2.1, AK.2.2.1, AK.2.2.2.2.2⟩⟩ PN.ra AK.2.1 Sg
  rw [Sg]
  clear Sg
  generalize v16.heap.size = p at Uw ⊢
  have Xr : Hid (YE.heap[w.heap.size]? = some (.cells Z1 23 (0, 0))) := (wZ.ab Uw.bk.st.fl.below).aE
  have eX : Hid (∃ (L9 : Lc) (S : Sc) (K : Kc) (f : Fl) (b : Bk) (r : Rb) (y : Rc) (g : Fl), Pw W0 YE L9 S K f b p (bF L9.d K.D (xa y g) (ba r b)) r y g b ∧ fE f g ∧ jH f b (2 + ((0 : Nat) : Int)) ∧ L9.d = L.d ∧ f.pg = P ∧ f.ar.length = B ∧ b.first = 0 ∧ b.aa = B) := by
   rw [← G4] at Uw
   exact ⟨_, _, _, _, _, _, _, _, Uw, fE.refl G, Zu, G4, xC⟩
  clear Uw
  simp only [nm]
  refine wV (.pointer (some ⟨p, 0, none⟩)) ?_
  clear FF G4 Xs FC AK XP P9 PN Js PS Zo uA Zu DP MR AL uF PO xC NC TG HRO TV Yb
  have d0 := (cell_of_row YE w.heap.size 0 Z1 23 (0, 0) Xr).trans oy.2.2.1
  have d1 := (cell_of_row YE w.heap.size 1 Z1 23 (0, 0) Xr).trans oy.2.2.2.1
  obtain ⟨KP, WM⟩ := ex (k * P)
  have acu : KP ≤ 8 := by rw [← WM]; exact Nat.mul_le_mul Lt.2 Nt.2
  have hKQ : KP * 64 = Q := by rw [← WM]; exact HQQ
  have q1 : ((B : Int) - 2).tdiv 2 = (k : Int) := by have := pD.out; rw [Int.tdiv_eq_ediv_of_nonneg oM]; omega
  have q1' : ((B : Int) - 2) / 2 = (k : Int) := by have := pD.out; omega
  have q2 : (k : Int) * (P : Int) = (KP : Int) := by rw [← WM]; push_cast; rfl
  have q3 : (KP : Int) * 64 = (Q : Int) := oM
  have q4 : IntKind.i64.wrap (KP : Int) = (KP : Int) := IntWalk.i64_in _ oM
  have q5 : IntKind.i64.wrap (Q : Int) = (Q : Int) := IntWalk.i64_in _ oM
  have Zz := iD WM
  have HKQ := iD hKQ
  clear WM hKQ
  go_upto_region 12 with (fail)
  clear d0 d1 q1 q1' q2 q3 q4 q5
  go_wp2_with (fail)
  go_loopw [82] (fun i wr => ∃ j : Nat, j ≤ n ∧ i = .int .i64 j ∧ ∃ (L9 : Lc) (S : Sc) (K : Kc) (f : Fl) (b : Bk) (r : Rb) (y : Rc) (g : Fl), Pw W0 wr L9 S K f b p (bF L9.d K.D (xa y g) (ba r b)) r y g b ∧ fE f g ∧ jH f b (2 + (j : Int)) ∧ L9.d = L.d ∧ f.pg = P ∧ f.ar.length = B ∧ b.first = 0 ∧ b.aa = B) (fun i _ => n - (intOf i).toNat)
  case atStart => exact ⟨0, Nat.zero_le _, rfl, eX⟩
  case round =>
   obtain ⟨j, hj, rfl, L9, S9, K9, f9, b9, r9, y9, g9, h1, h2, h3, h4, h5⟩ := hrel
   have UZ := iD h1
   have HSI := iD h2
   have lV := iD h3
   have Zy := iD h4
   have G2 := iD h5
   have GV : Hid (bW w wr) := wZ.below.trans (h1.bk.st.fl.below.mono wZ.below.size)
   clear h1 h2 h3 h4 h5 eX
   by_cases aY : j < n
   ·obtain ⟨x, hx⟩ := getElem?_of_lt (l := l) (k := j) (by rw [HN]; exact aY)
    have Ur := gX x (List.mem_of_getElem? hx)
    obtain ⟨bb, off, hAe, cB, c0, c1, c2, c3⟩ := (HA.below GV cV).ev hx
    subst hAe
    have MJ := iD Ur
    have HC := iD (R3 c0 c1 c2 c3)
    clear hx Ur c0 c1 c2 c3
    have Bc : (j : Int) < (n : Int) := oM
    go_upto_region 14 with (fail)
    refine wp_region_list ?_
    refine wV (.pointer (some ⟨bb, off + j * 4, none⟩)) ?_
    refine wpList_load_mid rfl 52 _ rfl bb (off + j * 4) rfl [.int .u8 x.k, .int .i64 x.a, .int .i64 x.b, .slice x.P x.q x.r] _ HC underlying52 rfl (z52 (C := z4) rfl) ?_
    simp only [nm]
    refine aaX rfl rfl ?_
    simp only [nm]
    have hba : Below wr.heap.size wr ((wr.alloc (.cells z4 52)).setRow wr.heap.size #[.int .u8 x.k, .int .i64 x.a, .int .i64 x.b, .slice x.P x.q x.r]) := below_setRow (bV.alloc cV _) cV _
    have Zn := iD (setRow_heap _ _ z4 #[.int .u8 x.k, .int .i64 x.a, .int .i64 x.b, .slice x.P x.q x.r] 52 _ (heap_alloc_new wr (.cells z4 52)))
    refine wpList_store_rowTo rfl 52 _ _ rfl rfl wr.heap.size #[.int .u8 x.k, .int .i64 x.a, .int .i64 x.b, .slice x.P x.q x.r] rfl rfl 52 z4 (heap_alloc_new wr _) (z52 rfl) rfl (by simp [Value.oneCell']) ?_
    have TJ := iD (UZ.ab hba)
    generalize (wr.alloc (.cells z4 52)).setRow wr.heap.size #[.int .u8 x.k, .int .i64 x.a, .int .i64 x.b, .slice x.P x.q x.r] = wa at TJ Zn ⊢
    clear hba UZ
    generalize wr.heap.size = ma at Zn ⊢
    obtain ⟨bq9, oq9, xv, aae, fL⟩ := mh TJ.rk.v lV.ok.Na
    obtain ⟨sv, Sm⟩ : ∃ sv : Nat, aV b9 0 = (sv : Int) := by
     rcases lV.ok.Qk.1 with e | e
     ·exact ⟨0, e⟩
     exact ⟨1, e⟩
    have VL : sv ≤ 1 := by
     have := lV.ok.Qk.1
     omega
    have DH : wa.cell? ⟨p, 14, none⟩ = some (.slice (some ⟨bq9, oq9, none⟩) 9 r9.q.c3) := by
     rw [cell_of_row wa p 14 _ 50 (0, 0) TJ.row, gR (aT _ _) 6]
     show some (Value.slice r9.q.Q3 b9.st.saved.length r9.q.c3) = _
     rw [xv, lV.ok.Na]
    have e15 : wa.cell? ⟨bq9, oq9, none⟩ = some (.int .i64 (sv : Int)) := by
     have h9 := fL 0 oM
     rw [← Sm]
     exact h9
    have xX := iD Sm
    clear xv aae fL Sm
    go_upto_region 16 with (fail)
    have HZa := iD (wZ.ab TJ.bk.st.fl.below)
    have d1 := HZa.cell0 1 oy.2.2.2.1
    obtain ⟨M4, LD⟩ := ex (sv * Q)
    have acr : M4 ≤ 512 := by rw [← LD]; have := Nat.mul_le_mul VL hQ1.2; omega
    obtain ⟨AT, hAT⟩ := ex (2 * P * 64 + M4)
    have q1 : (sv : Int) * (Q : Int) = (M4 : Int) := by rw [← LD]; push_cast; rfl
    have q2 : 2 * (P : Int) * 64 + (M4 : Int) = (AT : Int) := oM
    have q3 : IntKind.i64.wrap (M4 : Int) = (M4 : Int) := IntWalk.i64_in _ oM
    have q4 : IntKind.i64.wrap (AT : Int) = (AT : Int) := IntWalk.i64_in _ oM
    have q5 : IntKind.i64.wrap (2 * (P : Int)) = 2 * (P : Int) := IntWalk.i64_in _ oM
    have q6 : IntKind.i64.wrap (2 * (P : Int) * 64) = 2 * (P : Int) * 64 := IntWalk.i64_in _ oM
    have Bo := iD (And.intro LD hAT)
    have acy : AT ≤ 1024 := oM
    clear LD hAT
    go_upto_region 17 with (fail)
    clear d1 q1 q2 q3 q4 q5 q6 DH e15
    obtain ⟨NI, wh⟩ := ex (B * P * 64)
    have e9 : f9.img.length = NI := by rw [lV.fo.len, G2.1, G2.2.1, wh]
    have IJ : B * P = 2 * KP + 2 * P := by rw [pD, Nat.add_mul, Nat.mul_assoc, Zz]
    have hNA : AT + Q ≤ NI := by
     have h1 := Nat.mul_le_mul VL (Nat.le_refl Q)
     have h2 := Bo.out
     have h3 := HKQ.out
     omega
    have acq : NI ≤ 3000 := oM
    have P1 := iD e9
    have nv := iD wh
    have Yt := iD IJ
    have PW := iD (yN TJ.bk.st.fl)
    rw [Zy, e9] at PW
    clear e9 wh IJ
    go_wp2_with (fail)
    refine PW.mono ?_
    rintro e wb ⟨v1, rfl, lW, dC⟩
    obtain ⟨A1, c1, rfl, Iz, mv, -⟩ := bM lW
    have DK := iD (cn.new (X := ea L9 S9) TJ.bk.cY cV (by rw [aD, P1]) lW)
    have HPb := iD (TJ.ab dC)
    have Zm : Hid (wb.heap[ma]? = some (.cells #[.int .u8 x.k, .int .i64 x.a, .int .i64 x.b, .slice x.P x.q x.r] 52 (0, 0))) := (dC.block _ (Array.getElem?_eq_some_iff.1 Zn).1).trans Zn
    have e0 := (cell_of_row wb ma 0 _ 52 (0, 0) Zm).trans (show (#[Value.int .u8 x.k, .int .i64 x.a, .int .i64 x.b, .slice x.P x.q x.r] : Array Value)[0]? = some (.int .u8 x.k) from rfl)
    have e1 := (cell_of_row wb ma 1 _ 52 (0, 0) Zm).trans (show (#[Value.int .u8 x.k, .int .i64 x.a, .int .i64 x.b, .slice x.P x.q x.r] : Array Value)[1]? = some (.int .i64 x.a) from rfl)
    have e2 := (cell_of_row wb ma 2 _ 52 (0, 0) Zm).trans (show (#[Value.int .u8 x.k, .int .i64 x.a, .int .i64 x.b, .slice x.P x.q x.r] : Array Value)[2]? = some (.int .i64 x.b) from rfl)
    have e3 := (cell_of_row wb ma 3 _ 52 (0, 0) Zm).trans (show (#[Value.int .u8 x.k, .int .i64 x.a, .int .i64 x.b, .slice x.P x.q x.r] : Array Value)[3]? = some (.slice x.P x.q x.r) from rfl)
    have Wd : (2 + (j : Int)) < 999000 := by have := HN.out; omega
    have HDO := iD (Tp HPb HSI lV Wd x.k x.a x.b ⟨MJ.k0, MJ.k1⟩ MJ.a0 MJ.b0 x.P x.q x.r x.p ((MJ.rp.below wZ.below cV).more wZ.below.size) MJ.lp MJ.sq MJ.bp)
    clear lW dC
    go_wp2_with (fail)
    refine HDO.mono ?_
    rintro e wc ⟨L1, S1, K1, f1, b1, r1, y1, g1', rfl, rR, hot, gF, QN⟩
    have HP1 := iD rR
    have l4 := iD gF
    have oX := iD QN
    have HX2 := iD (KB DK hot)
    have xz : L1.d = L.d := hot.d.trans Zy
    have DN := iD xz
    have Ak : f1.img.length = NI := by rw [QN.pl.fo.len, QN.LU.sh.p, QN.LU.sh.w, G2.1, G2.2.1, nv]
    have Yn := iD Ak
    have Yd := iD (yN rR.bk.st.fl)
    rw [xz, Ak] at Yd
    clear rR hot gF QN xz e0 e1 e2 e3 Ak
    go_wp2_with (fail)
    refine Yd.mono ?_
    rintro e wd ⟨v2, rfl, kV, dP⟩
    obtain ⟨A2, c2, rfl, Dy, rU, nQ⟩ := bM kV
    have U0 := iD (HP1.ab dP)
    have qG := (HX2.below dP).rd
    have Ss : (0 : Nat) < Q := oM
    obtain ⟨x1, o1, rfl, -, -⟩ := qG (fun e => by have h9 := congrArg List.length e; rw [aD, P1] at h9; simp at h9; omega)
    obtain ⟨x2, o2, rfl, -, -⟩ := nQ (fun e => by have h9 := congrArg List.length e; rw [aD, Yn] at h9; simp at h9; omega)
    have hk9 : b9.k = k := by
     have := pD.out
     unfold Bk.k
     rw [G2.2.2.2]
     omega
    obtain ⟨M5, WK⟩ := ex (sv * KP)
    have aaN : M4 = M5 * 64 := by rw [← Bo.1, ← HKQ, ← WK, Nat.mul_assoc]
    have lk := O1 oX.LU sv P G2.1 xX AT Q (by
     unfold cE
     rw [G2.2.2.1, hk9, Nat.add_mul, Nat.mul_assoc sv k P, Zz, WK]
     have := Bo.out.2
     omega) (by rw [hk9, Zz.out]; have := HKQ.out; omega)
    obtain ⟨TX, hTX⟩ := ex (strOfNums ((f9.img.drop AT).take Q))
    have t1 : ∀ q, (convert 32 9 (.slice (some ⟨x1, o1 + AT, none⟩) Q (c1 - AT))).run prog (wd.drewN q) = .ok (.string TX) (wd.drewN q) := fun q => by
     rw [← hTX]
     exact lO ((qG.part AT Q).drew cV q) (by rw [List.length_take, List.length_drop, P1]; omega)
    have t2 : ∀ q, (convert 32 9 (.slice (some ⟨x2, o2 + AT, none⟩) Q (c2 - AT))).run prog (wd.drewN q) = .ok (.string TX) (wd.drewN q) := fun q => by
     rw [← hTX, ← lk]
     exact lO ((nQ.part AT Q).drew cV q) (by rw [List.length_take, List.length_drop, Yn]; omega)
    have HZd := iD (wZ.ab U0.bk.st.fl.below)
    have d0 := HZd.cell0 0 oy.2.2.1
    have d1 := HZd.cell0 1 oy.2.2.2.1
    obtain ⟨BP, IJ⟩ := ex (B * P)
    have q1 : (B : Int) * (P : Int) = (BP : Int) := by rw [← IJ]; push_cast; rfl
    have q2 : (BP : Int) * 64 = (NI : Int) := by have := nv.out; rw [IJ] at this; omega
    obtain ⟨AQ, hAQ⟩ := ex (AT + Q)
    have acv : BP ≤ 100 := by have := nv.out; rw [IJ] at this; omega
    have q3 : IntKind.i64.wrap (BP : Int) = (BP : Int) := IntWalk.i64_in _ oM
    have q4 : IntKind.i64.wrap (NI : Int) = (NI : Int) := IntWalk.i64_in _ oM
    have q5 : IntKind.i64.wrap ((AT : Int) + (Q : Int)) = (AQ : Int) := by rw [IntWalk.i64_in _ oM]; omega
    have q6 : AQ - AT = Q := oM
    have u1 : (AT : Int) ≤ (AQ : Int) := oM
    have u2 : (AQ : Int) ≤ (c1 : Int) := oM
    have u3 : (AQ : Int) ≤ (c2 : Int) := oM
    have u4 : ¬ c1 = AT := oM
    have u5 : ¬ c2 = AT := oM
    clear qG nQ lk hTX WK aaN IJ hAQ kV dP hk9
    go_upto_region 21 with (fail)
    go_quiet (fail)
    clear t1 t2 d0 d1 q1 q2 q3 q4 q5 q6 u1 u2 u3 u4 u5
    go_wp2
    go_roundw
    case rel => exact ⟨j + 1, oM, by go_num, L1, S1, K1, f1, b1, r1, y1, g1', U0.ab (Below.drewN bV _), l4, by have h9 := oX.pl; rw [Int.add_assoc] at h9; exact h9, DN, oX.LU.sh.p.trans G2.1, oX.LU.sh.w.trans G2.2.1, oX.fi.trans G2.2.2.1, oX.bl.trans G2.2.2.2⟩
    case measure => simp [intOf]; omega
   obtain rfl : j = n := oM
   go_wp2
   try go_ret
   exact ⟨rfl, GV⟩
end Go.Proofs.YtjdknddnanopaaaGreat
