/- The walk of the law FnWaitCost. -/
import Derived.Test.YtbjnkjookokjaaaWaitL2
namespace Go.Proofs.Ytbjnkjookokjaaa
open Go.ChangeShapes Go.WideShapes Go.ChangeAt Go.RowKit

theorem qb {w w' : World} {v : Value} {e : Ending} (h : Qt w v e w') : e = .returned v ∧ Below w.heap.size w w' := by
  obtain ⟨rfl, m, rfl⟩ := h
  exact ⟨rfl, bdrewN (Below.refl _ _) m⟩
/-- A number, not above x; old memory as it was. -/
def UpTo (w : World) (x : Int) (e : Ending) (w' : World) : Prop := ∃ y : Int, e = .returned (.int .i64 y) ∧ y ≤ x ∧ Below w.heap.size w w'

set_option maxRecDepth 100000 in
set_option maxHeartbeats 4000000 in
theorem walk_FnWaitCost (A : Option Addr) (n c : Nat) (g : Nat → Int) (w : World) (hB : Bytes w A n c g) : Calls Try.prog 8 #[.slice A n c] w fun e w' => e = .returned (.bool true) ∧ Below w.heap.size w w' := by
  by_cases hn : 1048576 < n
  · have hn' : (1048576 : Int) < (n : Int) := by omega
    go_enter Try.func8, Try.ntmps8
    go_wp2
    go_ret
    exact ⟨rfl, by (repeat' (first | (with_reducible exact Below.refl _ _) | (with_reducible assumption) | (with_reducible exact bundrew (by assumption)) | (with_reducible refine balloc ?_ _) | (with_reducible refine bset ?_ _ ?_ _) | (with_reducible refine Below.drew ?_) | (with_reducible refine bdrewN ?_ _) | (with_reducible refine bvia (by assumption) ?_) | (with_reducible refine Below.trans ?_ (by assumption)) | omega | (simp; omega) | (simp; done)))⟩
  · have hn' : (n : Int) ≤ 1048576 := by omega
    go_enter Try.func8, Try.ntmps8
    go_wp2_with fail
    refine (drawWaitCost_any A n c g _ hB).mono ?_
    rintro x wd ⟨v, u, t, xs, os, ps, rfl, ⟨A1, c1, rfl, -, -, I1⟩, ⟨A2, c2, rfl, -, -, I2⟩, ⟨A3, c3, rfl, ⟨hc3, hA3⟩, hc3', I3⟩, l1, l2, l3, hbd⟩
    obtain ⟨n1, hn1⟩ : ∃ n1, xs.length = n1 := ⟨_, rfl⟩
    obtain ⟨n2, hn2⟩ : ∃ n2, os.length = n2 := ⟨_, rfl⟩
    obtain ⟨n3, hn3⟩ : ∃ n3, ps.length = n3 := ⟨_, rfl⟩
    have hfacts := fun h => wcI_facts (ps := ps) (os := os) hn1 h l3
    rw [hn1] at I1 l1 ⊢
    rw [hn2] at I2 l2 ⊢
    rw [hn3] at I3 l3 hc3 hfacts ⊢
    have n0 : 0 ≤ (n1 : Int) := by omega
    have m0 : 0 ≤ (n3 : Int) := by omega
    have m4 : (n3 : Int) ≤ 4 := by omega
    have WI : ∀ w, Ints w A1 n1 xs → Ints w A2 n2 os → Ints w A3 n3 ps → Calls Try.prog 16 #[.slice A1 n1 c1, .slice A2 n2 c2, .slice A3 n3 c3] w fun e w' => e = .returned (.int .i64 (wcI xs os ps)) ∧ Below w.heap.size w w' := fun w h h' h2 => (wc_impl A1 n1 c1 xs A2 n2 c2 os A3 n3 c3 ps w h h' h2).mono fun _ _ h => qb h
    have WS : ∀ w, Ints w A1 n1 xs → Ints w A2 n2 os → Ints w A3 n3 ps → Calls Try.prog 15 #[.slice A1 n1 c1, .slice A2 n2 c2, .slice A3 n3 c3] w fun e w' => e = .returned (.int .i64 (wcI xs os ps)) ∧ Below w.heap.size w w' := fun w h h' h2 => (wc_spec A1 n1 c1 xs A2 n2 c2 os A3 n3 c3 ps w h h' h2).mono fun _ _ h => qb h
    cases hw : wcB xs os ps
    · rw [wcI_no (by simp [hw])] at WI WS
      have HWI := Lib.hid WI
      have HWS := Lib.hid WS
      clear WI WS hw hfacts hn1 hn2 hn3
      go_wp2_with fail
      refine (HWI.out _ I1 I2 I3).mono ?_
      rintro e w1 ⟨rfl, b1⟩
      have K1 := I1.below b1
      have K2 := I2.below b1
      have K3 := I3.below b1
      go_wp2_with (first
        | (go_at_call 15; refine (HWS.out _ K1 K2 K3).mono ?_; rintro x w2 ⟨rfl, b2⟩)
        | (go_at_call 25; refine (alive_any _).mono ?_; rintro x w3 ⟨rfl, b3⟩))
      go_ret
      exact ⟨rfl, bvia b3 (bvia b2 (bvia b1 hbd))⟩
    · obtain ⟨f0, f1, f2, f3, f4⟩ := hfacts hw
      have LI := fun w h h' => least_impl A1 n1 c1 xs A2 n2 c2 os (n3 : Int) w h h'
      obtain ⟨x, hx⟩ : ∃ x, wcI xs os ps = x := ⟨_, rfl⟩
      obtain ⟨y, hy⟩ : ∃ y, leastI xs os (n3 : Int) = y := ⟨_, rfl⟩
      rw [hx] at f0 f1 f4 WI WS
      rw [hy] at f3 f4 LI
      have WM : ∀ (k : Nat) (A : Option Addr) (c m : Nat) (w : World), k < n1 → Ints w A1 n1 xs → Ints w A2 n2 os → Ints w A m (ps ++ [(k : Int)]) → Calls Try.prog 16 #[.slice A1 n1 c1, .slice A2 n2 c2, .slice A m c] w (UpTo w x) := fun k A c m w hk h h' h2 => (wc_impl A1 n1 c1 xs A2 n2 c2 os A m c _ w h h' h2).mono fun _ _ h => by
        obtain ⟨q1, q2⟩ := qb h
        exact ⟨_, q1, f1 k hk, q2⟩
      have WA : ∀ (A : Option Addr) (c m : Nat) (w : World), Ints w A1 n1 xs → Ints w A2 n2 os → Ints w A m (nums (List.range n1)) → Calls Try.prog 16 #[.slice A1 n1 c1, .slice A2 n2 c2, .slice A m c] w fun e w' => e = .returned (.int .i64 0) ∧ Below w.heap.size w w' := fun A c m w h h' h2 => (wc_impl A1 n1 c1 xs A2 n2 c2 os A m c _ w h h' h2).mono fun _ _ h => by
        rw [f2] at h; exact qb h
      have HWI := Lib.hid WI
      have HWS := Lib.hid WS
      have HWM := Lib.hid WM
      have HWA := Lib.hid WA
      have HLI := Lib.hid LI
      have HL3 := Lib.hid hn3
      clear WI WS WM WA LI hw hfacts f1 f2 hx hy hn1 hn2 hn3
      go_wp2_with fail
      refine (HWI.out _ I1 I2 I3).mono ?_
      rintro e w1 ⟨rfl, b1⟩
      have K1 := I1.below b1
      have K2 := I2.below b1
      have K3 := I3.below b1
      have T1 : Below w.heap.size w w1 := bvia b1 hbd
      go_wp2_with fail
      refine (HWS.out _ K1 K2 K3).mono ?_
      rintro x w2 ⟨rfl, b2⟩
      have T2 : Below w.heap.size w w2 := bvia b2 T1
      have BA : Below w2.heap.size w2 (w2.alloc (.cells #[] 3)) := (Below.refl _ w2).alloc (Nat.le_refl _) _
      have J1 := Lib.hid (K1.below b2)
      have J2 := Lib.hid (K2.below b2)
      have J3 := Lib.hid (K3.below b2)
      clear I1 I2 I3 K1 K2 K3
      have Hz := OwnI.made (w := w2.alloc (.cells #[] 3)) (base := w2.heap.size) (g := w2.heap.size) (xs := []) (Nat.le_refl _) (heap_alloc_new w2 _) (by unfold maxLen; decide)
      go_wp2_with fail
      go_loopw [7, 8] (fun t' i wr => ∃ (t : Value) (k : Nat), t = t' ∧ i = .int .i64 k ∧ k ≤ n1 ∧ OwnI wr w2.heap.size t (nums (List.range k)) ∧ Below w2.heap.size w2 wr) (fun _ i _ => n1 - (intOf i).toNat)
      case atStart => exact ⟨_, 0, rfl, rfl, by omega, Hz, BA⟩
      case round =>
        clear Hz BA
        obtain ⟨t, k, rfl, rfl, hk, ht, hb⟩ := hrel
        have hbs := hb.size
        by_cases hlt : k < n1
        · have hlt' : (k : Int) < (n1 : Int) := by omega
          have hk9 : (nums (List.range k)).length ≤ 9 := by rw [nums_length]; simp; omega
          have HS : Hid (nums (List.range k) ++ [(k : Int)] = nums (List.range (k + 1))) := Lib.hid (by rw [List.range_succ, nums_snoc])
          obtain ⟨rk, hrk⟩ : ∃ rk, nums (List.range k) = rk := ⟨_, rfl⟩
          rw [hrk] at ht hk9 HS
          clear hrk
          have lp : ps.length ≤ 9 := by rw [HL3.out]; omega
          go_wp2_with (first
            | (at_builtin; have _t := h4; refine app_intG rfl _ _ rfl w3.heap.size w4.heap.size _ ([] ++ ps) (k : Int) rfl rfl (h4.alloc _) ?_ ?_ ?_ ?_; (focus (first | (go_simp; done) | (simp; done) | omega | (simp; omega))); (focus (first | (go_simp; done) | (simp; done) | omega | (simp; omega))); (focus (first | (go_simp; done) | (simp; done) | omega | (simp; omega))); intro v5 w5 h5 g5; have b5 : Below w3.heap.size w3 w5 := b4.trans ((((Below.refl _ w4).alloc z4 _)).trans (grown_below (h4.alloc _) (by simp; omega) g5)); have z5 := b5.size)
            | (at_builtin; refine app_ints rfl _ _ rfl w3.heap.size _ [] A3 n3 c3 ps rfl rfl Hz3 (R3.out.below BA3) hA3 ?_ ?_ ?_; (focus (first | (go_simp; done) | (simp; done) | omega | (simp; omega))); (focus (first | (go_simp; done) | (simp; done) | omega | (simp; omega))); intro v4 w4 h4 g4; have b4 : Below w3.heap.size w3 w4 := BA3.trans (grown_below Hz3 (by simp) g4); have z4 := b4.size)
            | (at_builtin; refine app_int rfl _ _ rfl (w2.heap.size) wr.heap.size _ rk (k : Int) rfl rfl (ht.alloc _) ?_ ?_ ?_ ?_; (focus (first | (go_simp; done) | (simp; done) | omega | (simp; omega))); (focus (first | (go_simp; done) | (simp; done) | omega | (simp; omega))); (focus (first | (go_simp; done) | (simp; done) | omega | (simp; omega))); intro v3 w3 h3 g3; have b3 : Below w2.heap.size w2 w3 := hb.trans (((Below.refl _ wr).alloc hb.size _).trans g3); have s3 : w2.heap.size ≤ w3.heap.size := b3.size; have R1 := Lib.hid (J1.out.below b3); have R2 := Lib.hid (J2.out.below b3); have R3 := Lib.hid (J3.out.below b3); have BA3 : Below w3.heap.size w3 (w3.alloc (.cells #[] 3)) := (Below.refl _ w3).alloc (Nat.le_refl _) _; have Hz3 := OwnI.made (w := w3.alloc (.cells #[] 3)) (base := w3.heap.size) (g := w3.heap.size) (xs := []) (Nat.le_refl _) (heap_alloc_new w3 _) (by unfold maxLen; decide)))
          have h5' : OwnI w5 w3.heap.size v5 (ps ++ [(k : Int)]) := by simpa using h5
          have Q1 := Lib.hid (R1.out.below b5)
          have Q2 := Lib.hid (R2.out.below b5)
          have h35 := h3.below b5
          have T5 : Below w2.heap.size w2 w5 := b3.trans (below_le s3 b5)
          obtain ⟨A5, c5, rfl⟩ := h5'.shape
          obtain ⟨A6, c6, rfl⟩ := h35.shape
          have P5 := Lib.hid h5'.ints.2
          clear h4 h5 g4 g5 Hz3 BA3 h3 h5' R1 R2 R3
          go_wp2_with (go_at_call 16; refine (HWM.out k _ _ _ _ hlt Q1.out Q2.out P5.out).mono ?_; rintro x w6 ⟨y6, rfl, hy6, b6⟩)
          have h36 : OwnI w5 w2.heap.size (.slice A6 (rk.length + 1) c6) (nums (List.range (k + 1))) := by rw [← HS.out]; simpa using h35
          exact ⟨⟨_, k + 1, rfl, by first | go_num | (congr 1; omega), by omega, h36.below b6, T5.trans (below_le T5.size b6)⟩, by simp [intOf]; omega⟩
        · obtain rfl : k = n1 := by omega
          obtain ⟨A6, c6, rfl⟩ := ht.shape
          have R1 := Lib.hid (J1.out.below hb)
          have R2 := Lib.hid (J2.out.below hb)
          have TR : Below w.heap.size w wr := bvia hb T2
          go_wp2_with fail
          refine (HLI.out _ R1.out R2.out).mono ?_
          rintro x w6 ⟨rfl, b6⟩
          have Q1 := R1.out.below b6
          have Q2 := R2.out.below b6
          have h6 := ht.below b6
          go_wp2_with (go_at_call 16; refine (HWA.out _ _ _ _ Q1 Q2 h6.ints.2).mono ?_; rintro x w7 ⟨rfl, b7⟩)
          go_ret
          exact ⟨rfl, bvia b7 (bvia b6 TR)⟩
end Go.Proofs.Ytbjnkjookokjaaa
