/-
  Params: blank.
-/
import Derived.Test.YtfeceamhlphelaaW40
namespace Go.Proofs.Ytfeceamhlphelaa
open Go.RowKit
set_option linter.unusedVariables false
set_option pp.deepTerms true

theorem no255 (x : Int) (w : World) : Calls Try.prog 113 #[.int .u8 x] w fun e w' => e = .returned (.bool (x != 255)) ∧ w = w' := by
  go_enter Try.func113, Try.ntmps113
  go_wp2
  go_ret
  exact ⟨rfl, rfl⟩

theorem idx_any (A : Option Addr) (n c : Nat) (b : List Int) (w : World) (hA : Rd w w.heap.size A (kcells .u8 b)) (hn : b.length = n) (hn2 : n ≤ 1000000) :
    Calls Try.prog 114 #[.slice A n c, .func (.func 113) #[] #[]] w fun e w' => (∃ r : Int, e = .returned (.int .i64 r) ∧ decide (0 ≤ r) = !blankF b) ∧ w = w' := by
  have HA := Lib.hid hA
  have HN := Lib.hid hn
  clear hA hn
  go_enter Try.func114, Try.ntmps114
  go_wp2
  go_loopw [8] (fun i wr => ∃ k : Nat, k ≤ n ∧ i = .int .i64 k ∧ blankF (b.take k) = true ∧ w = wr) (fun i _ => n - (intOf i).toNat)
  case atStart => exact ⟨0, Nat.zero_le _, rfl, rfl, rfl⟩
  case round =>
    obtain ⟨k, hk, rfl, ht, rfl⟩ := hrel
    have HT := Lib.hid ht
    clear ht
    by_cases hlt : k < n
    · obtain ⟨x, hx⟩ := getElem?_of_lt (l := b) (k := k) (by rw [HN.out]; exact hlt)
      obtain ⟨ba, off, rfl, _, e0⟩ := HA.out.kint hx
      have HX := Lib.hid hx
      have H1 := Lib.hid (fun w => no255 x w)
      clear hx
      by_cases he : x = 255
      · have HS := Lib.hid (blankF_step HX.out HT.out he)
        rw [show (x != 255) = false by simpa using he] at H1
        clear he
        go_wp2_with (fail)
        (with_reducible refine (H1.out _).mono ?_)
        rintro e w1 ⟨rfl, rfl⟩
        go_wp2
        go_roundw
        case rel => exact ⟨k + 1, by omega, by go_num, HS.out, by first | rfl | trivial⟩
        case measure => simp [intOf]; omega
      · have HS := Lib.hid (blankF_no HX.out he)
        rw [show (x != 255) = true by simpa using he] at H1
        clear he
        go_wp2_with (fail)
        (with_reducible refine (H1.out _).mono ?_)
        rintro e w1 ⟨rfl, rfl⟩
        go_wp2
        go_ret
        refine ⟨⟨k, rfl, ?_⟩, rfl⟩
        rw [HS.out, decide_eq_true (by omega)]
        rfl
    · have hkn : k = n := by omega
      subst hkn
      have HS : Hid (blankF b = true) := by
        have := HT.out
        rwa [List.take_of_length_le (by rw [HN.out]; exact Nat.le_refl _)] at this
      go_wp2
      go_ret
      refine ⟨⟨-1, rfl, ?_⟩, rfl⟩
      rw [HS.out]
      rfl

theorem contains_any (A : Option Addr) (n c : Nat) (b : List Int) (w : World) (hA : Rd w w.heap.size A (kcells .u8 b)) (hn : b.length = n) (hn2 : n ≤ 1000000) :
    Calls Try.prog 112 #[.slice A n c, .func (.func 113) #[] #[]] w fun e w' => e = .returned (.bool (!blankF b)) ∧ w = w' := by
  have HI := Lib.hid (idx_any A n c b w hA hn hn2)
  clear hA hn
  go_enter Try.func112, Try.ntmps112
  go_wp2_with (fail)
  (with_reducible refine HI.out.mono ?_)
  rintro e w1 ⟨⟨r, rfl, hr⟩, rfl⟩
  have HR := Lib.hid hr
  clear hr
  go_wp2
  go_ret
  refine ⟨?_, rfl⟩
  rw [← HR.out]
  rfl

theorem blankN_succ (f : Fl) (a k : Nat) : blankN f a (k + 1) = (blankN f a k && blankF (pageF f (a + k))) := by
  unfold blankN
  rw [List.range_succ, List.all_append]
  simp
theorem blankN_more {f : Fl} {a k n : Nat} (hk : k < n) (h : blankF (pageF f (a + k)) = false) : blankN f a n = false := by
  unfold blankN
  rw [List.all_eq_false]
  exact ⟨k, List.mem_range.2 hk, by rw [h]; decide⟩
theorem readF_in {f : Fl} {a : Nat} (hd : f.down = false) (ha : a < f.wear.length * f.pg) : readF f (a : Int) = (pageF f a, 0) := by
  have : atF f (a : Int) = 0 := by
    unfold atF
    rw [hd, if_neg (by decide), if_neg (by omega)]
  unfold readF
  rw [if_neg (by omega), Int.toNat_natCast]
theorem pageF_len {f : Fl} (h : f.ok) {a : Nat} (ha : a < f.wear.length * f.pg) : (pageF f a).length = 64 := by
  unfold pageF
  rw [List.length_take, List.length_drop, h.len]
  omega
theorem pageF_bytes {f : Fl} (h : f.ok) (a : Nat) : Bytes (pageF f a) := bytes_take (bytes_drop h.byt _) _
theorem pages_1024 {f : Fl} (h : f.ok) : f.wear.length * f.pg ≤ 1024 := Nat.mul_le_mul h.b2 h.p2

section
variable {w0 w : World} {L : Lc} {S : Sc} {f : Fl} {s : St}

set_option maxHeartbeats 2000000 in
theorem blank_any (h : StAt w0 w L S f s) (hd : f.down = false) (ai ni : Int) (a n : Nat) (ha : ai = a) (hn : ni = n) (han : a + n ≤ f.wear.length * f.pg) :
    Calls Try.prog 110 #[.pointer (some ⟨S.D, 0, none⟩), .int .i64 ai, .int .i64 ni] w fun e w' => e = .returned (.bool (blankN f a n)) ∧ Below w.heap.size w w' := by
  subst ha hn
  have g1 := ne_nil
  have hm := pages_1024 h.fl.ok
  have H := Lib.hid h
  have HAN := Lib.hid han
  have HD := Lib.hid hd
  have han2 : a + n ≤ 1024 := by omega
  clear h han hd hm
  go_enter Try.func110, Try.ntmps110
  go_wp2
  go_loopw [11] (fun i wr => ∃ k : Nat, k ≤ n ∧ i = .int .i64 k ∧ blankN f a k = true ∧ Below w.heap.size w wr) (fun i _ => n - (intOf i).toNat)
  case atStart => exact ⟨0, Nat.zero_le _, rfl, rfl, Below.refl _ _⟩
  case round =>
    obtain ⟨k, hk, rfl, ht, hb⟩ := hrel
    have HT := Lib.hid ht
    have HB := Lib.hid hb
    clear ht hb
    by_cases hlt : k < n
    · have HS := Lib.hid (H.out.later HB.out)
      have c0 := HS.out.row 0 _ rfl
      have hin : a + k < f.wear.length * f.pg := by have := HAN.out; omega
      have HR := Lib.hid (read_any HS.out.fl ((a : Int) + (k : Int)))
      rw [show (a : Int) + (k : Int) = ((a + k : Nat) : Int) by push_cast; rfl, readF_in HD.out hin] at HR
      have hl := pageF_len H.out.fl.ok hin
      have HLN := Lib.hid hl
      obtain ⟨p, hp⟩ : ∃ p, pageF f (a + k) = p := ⟨_, rfl⟩
      have HP := Lib.hid hp
      rw [hp] at HR HLN
      simp only [HLN.out] at HR
      rw [show ((a + k : Nat) : Int) = (a : Int) + (k : Int) by push_cast; rfl] at HR
      clear hin hl hp
      go_wp2_with (fail)
      (with_reducible refine HR.out.mono ?_)
      rintro e w1 ⟨v', rfl, ho, hb⟩
      obtain ⟨A, c, rfl, _, _, hr⟩ := own_read ho
      have HC := Lib.hid (contains_any A 64 c p w1 hr HLN.out (by omega))
      have HB1 : Hid (Below w.heap.size w w1) := HB.out.trans (hb.mono HB.out.size)
      clear ho hr hb c0
      by_cases hbl : blankF p = true
      · have HN : Hid (blankN f a (k + 1) = true) := by rw [Hid, blankN_succ, HT.out, HP.out, hbl]; rfl
        rw [hbl] at HC
        clear hbl
        rw [errV_zero]
        go_wp2_with (fail)
        (with_reducible refine HC.out.mono ?_)
        rintro e w2 ⟨rfl, rfl⟩
        go_wp2
        go_roundw
        case rel => exact ⟨k + 1, by omega, by go_num, HN.out, HB1.out⟩
        case measure => simp [intOf]; omega
      · have hbl' : blankF p = false := by simpa using hbl
        have HN : Hid (blankN f a n = false) := blankN_more hlt (by rw [HP.out]; exact hbl')
        rw [hbl'] at HC
        clear hbl hbl'
        rw [errV_zero]
        go_wp2_with (fail)
        (with_reducible refine HC.out.mono ?_)
        rintro e w2 ⟨rfl, rfl⟩
        go_wp2
        go_ret
        rw [HN.out]
        exact ⟨rfl, HB1.out⟩
    · have hkn : k = n := by omega
      subst hkn
      go_wp2
      go_ret
      rw [HT.out]
      exact ⟨rfl, HB.out⟩
end
end Go.Proofs.Ytfeceamhlphelaa
