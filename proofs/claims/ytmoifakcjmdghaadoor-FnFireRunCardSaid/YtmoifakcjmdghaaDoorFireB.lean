/- The walks of the laws FnExactFireStep and FnExactFireRun. -/
import Derived.Test.YtmoifakcjmdghaaDoorFireA
import Derived.Test.YtmoifakcjmdghaaDoorInts
namespace Go.Proofs.YtmoifakcjmdghaaDoor
open Go.ChangeShapes Go.WideShapes Go.ChangeAt Go.RowKit

theorem walk_FnExactFireStep (m e : Int) (w : World) (hT : Tab w) (_ : (Lit.int .i64 m).wf = true) (_ : (Lit.int .i64 e).wf = true) :
    Calls Tryd.prog 3 #[.int .i64 m, .int .i64 e] w fun x w' => x = .returned (.bool true) ∧ Below w.heap.size w w' := by
  have HT := Lib.hid hT
  clear hT
  go_enter Tryd.func3, Tryd.ntmps3
  go_wp2_with (first | (go_at_call 9; refine (fstep_impl _ _ _ HT.out).mono ?_; rintro e w' ⟨rfl, rfl⟩) | (go_at_call 8; refine (fstep_spec _ _ _).mono ?_; rintro e w' ⟨rfl, rfl⟩))
  go_ret
  exact ⟨rfl, by (repeat' (first | (with_reducible exact Below.refl _ _) | (with_reducible assumption) | (with_reducible exact bundrew (by assumption)) | (with_reducible refine balloc ?_ _) | (with_reducible refine bset ?_ _ ?_ _) | (with_reducible refine Below.drew ?_) | (with_reducible refine bdrewN ?_ _) | (with_reducible refine bvia (by assumption) ?_) | (with_reducible refine Below.trans ?_ (by assumption)) | omega | (simp; omega) | (simp; done)))⟩

set_option maxHeartbeats 1000000 in
theorem walk_FnExactFireRun (m : Int) (A : Option Addr) (n c : Nat) (xs : List Int) (w : World) (hT : Tab w) (_ : (Lit.int .i64 m).wf = true) (hI : Ints w A n xs) :
    Calls Tryd.prog 4 #[.int .i64 m, .slice A n c] w fun x w' => x = .returned (.bool true) ∧ Below w.heap.size w w' := by
  have HT := Lib.hid hT
  clear hT
  by_cases hn : n ≤ 1048576
  · have hn1 : (n : Int) ≤ 1048576 := by omega
    go_enter Tryd.func4, Tryd.ntmps4
    go_wp2_with fail
    refine (toInts_any A n c xs _ hI hn).mono ?_
    rintro e w1 ⟨g1, c1, rfl, hg1, hI1, hb1⟩
    go_wp2_with fail
    refine (frun_spec _ _ _ _ xs _ hI1).mono ?_
    rintro e w' ⟨rfl, rfl⟩
    go_wp2_with fail
    refine (toInts_any A n c xs _ (hI.below hb1) hn).mono ?_
    rintro e w2 ⟨g2, c2, rfl, hg2, hI2, hb2⟩
    go_wp2_with fail
    refine (frun_impl _ _ _ _ xs _ ((HT.out.below hb1 HT.out.1).below hb2 (by have := HT.out.1; have := hb1.size; omega)) hI2).mono ?_
    rintro e w' ⟨rfl, rfl⟩
    go_wp2_with fail
    refine (toInts_any A n c xs _ (hI.below (by (repeat' (first | (with_reducible exact Below.refl _ _) | (with_reducible assumption) | (with_reducible exact bundrew (by assumption)) | (with_reducible refine balloc ?_ _) | (with_reducible refine bset ?_ _ ?_ _) | (with_reducible refine Below.drew ?_) | (with_reducible refine bdrewN ?_ _) | (with_reducible refine bvia (by assumption) ?_) | (with_reducible refine Below.trans ?_ (by assumption)) | omega | (simp; omega) | (simp; done))))) hn).mono ?_
    rintro e w3 ⟨g3, c3, rfl, hg3, hI3, hb3⟩
    go_wp2_with fail
    refine (eqInts_any _ _ _ _ _ xs _ (hI2.below hb3) hI3).mono ?_
    rintro e w' ⟨rfl, m', rfl⟩
    go_wp2
    go_ret
    exact ⟨rfl, by (repeat' (first | (with_reducible exact Below.refl _ _) | (with_reducible assumption) | (with_reducible exact bundrew (by assumption)) | (with_reducible refine balloc ?_ _) | (with_reducible refine bset ?_ _ ?_ _) | (with_reducible refine Below.drew ?_) | (with_reducible refine bdrewN ?_ _) | (with_reducible refine bvia (by assumption) ?_) | (with_reducible refine Below.trans ?_ (by assumption)) | omega | (simp; omega) | (simp; done)))⟩
  · have hn1 : (1048576 : Int) < (n : Int) := by omega
    go_enter Tryd.func4, Tryd.ntmps4
    go_wp2
    go_ret
    exact ⟨rfl, by (repeat' (first | (with_reducible exact Below.refl _ _) | (with_reducible assumption) | (with_reducible exact bundrew (by assumption)) | (with_reducible refine balloc ?_ _) | (with_reducible refine bset ?_ _ ?_ _) | (with_reducible refine Below.drew ?_) | (with_reducible refine bdrewN ?_ _) | (with_reducible refine bvia (by assumption) ?_) | (with_reducible refine Below.trans ?_ (by assumption)) | omega | (simp; omega) | (simp; done)))⟩
end Go.Proofs.YtmoifakcjmdghaaDoor
