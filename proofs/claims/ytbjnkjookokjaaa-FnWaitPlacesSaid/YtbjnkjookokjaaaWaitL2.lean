/- The walk of the law FnWaitLeast. -/
import Derived.Test.YtbjnkjookokjaaaWaitQ
import Derived.Test.YtbjnkjookokjaaaDWait
namespace Go.Proofs.Ytbjnkjookokjaaa
open Go.ChangeShapes Go.WideShapes Go.ChangeAt Go.RowKit

set_option maxRecDepth 100000 in
set_option maxHeartbeats 4000000 in
theorem walk_FnWaitLeast (A : Option Addr) (n c : Nat) (g : Nat → Int) (w : World) (hB : Bytes w A n c g) : Calls Try.prog 9 #[.slice A n c] w fun e w' => e = .returned (.bool true) ∧ Below w.heap.size w w' := by
  by_cases hn : 1048576 < n
  · have hn' : (1048576 : Int) < (n : Int) := by omega
    go_enter Try.func9, Try.ntmps9
    go_wp2
    go_ret
    exact ⟨rfl, by (repeat' (first | (with_reducible exact Below.refl _ _) | (with_reducible assumption) | (with_reducible exact bundrew (by assumption)) | (with_reducible refine balloc ?_ _) | (with_reducible refine bset ?_ _ ?_ _) | (with_reducible refine Below.drew ?_) | (with_reducible refine bdrewN ?_ _) | (with_reducible refine bvia (by assumption) ?_) | (with_reducible refine Below.trans ?_ (by assumption)) | omega | (simp; omega) | (simp; done)))⟩
  · have hn' : (n : Int) ≤ 1048576 := by omega
    go_enter Try.func9, Try.ntmps9
    go_wp2_with fail
    refine (drawWaitLeast_any A n c g _ hB).mono ?_
    rintro x wd ⟨v, u, xs, os, a, rfl, ⟨A1, c1, rfl, -, -, I1⟩, ⟨A2, c2, rfl, -, -, I2⟩, l1, l2, a0, a1, hbd⟩
    obtain ⟨n1, hn1⟩ : ∃ n1, xs.length = n1 := ⟨_, rfl⟩
    obtain ⟨n2, hn2⟩ : ∃ n2, os.length = n2 := ⟨_, rfl⟩
    rw [hn1] at I1 l1 ⊢
    rw [hn2] at I2 l2 ⊢
    have n0 : 0 ≤ (n1 : Int) := by omega
    have LI := fun w h h' => least_impl A1 n1 c1 xs A2 n2 c2 os a w h h'
    have LS := fun w h h' => least_spec A1 n1 c1 xs A2 n2 c2 os a w h h'
    rcases leastI_or xs os a with hx | ⟨ho, hc, hx⟩
    · rw [hx] at LI LS
      have HLI := Lib.hid LI
      have HLS := Lib.hid LS
      clear LI LS hx hn1 hn2
      go_wp2_with fail
      refine (HLI.out _ I1 I2).mono ?_
      rintro e w1 ⟨rfl, b1⟩
      have K1 := I1.below b1
      have K2 := I2.below b1
      go_wp2_with (first
        | (go_at_call 21; refine (HLS.out _ K1 K2).mono ?_; rintro x w2 ⟨rfl, b2⟩)
        | (go_at_call 25; refine (alive_any _).mono ?_; rintro x w3 ⟨rfl, b3⟩))
      go_ret
      exact ⟨rfl, bvia b3 (bvia b2 (bvia b1 hbd))⟩
    · have hm := least_more ho hc
      have LA := fun w h h' => least_impl A1 n1 c1 xs A2 n2 c2 os (n1 : Int) w h h'
      rw [least_all ho hn1] at LA
      have LM := fun w h h' => least_impl A1 n1 c1 xs A2 n2 c2 os (a + 1) w h h'
      obtain ⟨x, hx0⟩ : ∃ x, leastI xs os a = x := ⟨_, rfl⟩
      obtain ⟨y, hy0⟩ : ∃ y, leastI xs os (a + 1) = y := ⟨_, rfl⟩
      rw [hx0] at LI LS hx hm
      rw [hy0] at LM hm
      have HLI := Lib.hid LI
      have HLS := Lib.hid LS
      have HLM := Lib.hid LM
      have HLA := Lib.hid LA
      clear LI LS LM LA ho hx0 hy0 hn1 hn2
      go_wp2_with fail
      refine (HLI.out _ I1 I2).mono ?_
      rintro e w1 ⟨rfl, b1⟩
      have K1 := I1.below b1
      have K2 := I2.below b1
      have T1 : Below w.heap.size w w1 := bvia b1 hbd
      go_wp2_with fail
      refine (HLS.out _ K1 K2).mono ?_
      rintro x w2 ⟨rfl, b2⟩
      have J1 := K1.below b2
      have J2 := K2.below b2
      have T2 : Below w.heap.size w w2 := bvia b2 T1
      clear I1 I2 K1 K2
      go_wp2_with fail
      refine (HLM.out _ J1 J2).mono ?_
      rintro x w3 ⟨rfl, b3⟩
      have T3 : Below w.heap.size w w3 := bvia b3 T2
      have G1 := J1.below b3
      have G2 := J2.below b3
      clear J1 J2
      go_wp2_with (go_at_call 22; refine (HLA.out _ G1 G2).mono ?_; rintro x w4 ⟨rfl, b4⟩)
      go_ret
      exact ⟨rfl, bvia b4 T3⟩
end Go.Proofs.Ytbjnkjookokjaaa
