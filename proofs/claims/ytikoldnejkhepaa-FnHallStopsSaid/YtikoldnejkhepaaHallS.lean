/- Drawn halls: the Draw functions; the walk of the law FnHallOk. -/
import Derived.Test.YtikoldnejkhepaaHallR
import Derived.Test.YtikoldnejkhepaaHallQ
namespace Go.Proofs.Ytikoldnejkhepaa
open Go.ChangeShapes Go.WideShapes Go.ChangeAt Go.RowKit

/-- Two drawn lists, in new memory. -/
def HallDrawn (w : World) (e : Ending) (w' : World) : Prop :=
  ∃ (v u : Value) (gs rs : List Int), e = .returned (.tuple #[v, u]) ∧ SlI w' v gs ∧ SlI w' u rs ∧ gs.length ≤ 7 ∧ rs.length ≤ 3 ∧ Below w.heap.size w w'

theorem drawHallOk_any (A : Option Addr) (n c : Nat) (g : Nat → Int) (w : World) (h : Bytes w A n c g) : Calls Try.prog 27 #[.slice A n c] w (HallDrawn w) := by
  go_enter Try.func27, Try.ntmps27
  go_wp2_with fail
  refine (open_any A n c g _ h).mono ?_
  rintro e w1 ⟨rfl, hb1, rd1⟩
  have s1 := hb1.size
  have r1 := rd1.lt
  go_wp2_with fail
  refine (l20Hall_any w.heap.size 0 2 _ rd1 (by omega) (by omega) (by omega)).mono ?_
  rintro e w2 ⟨v, u, gs, rs, rfl, sv, su, l1, l2, o2, rd2⟩
  go_wp2
  go_ret2
  exact ⟨v, u, gs, rs, rfl, sv.1, su.1, l1, l2, hb1.trans (o2.below (Nat.le_refl _) s1)⟩

theorem drawGoalMany_any (A : Option Addr) (n c : Nat) (g : Nat → Int) (w : World) (h : Bytes w A n c g) : Calls Try.prog 31 #[.slice A n c] w (HallDrawn w) := by
  go_enter Try.func31, Try.ntmps31
  go_wp2_with fail
  refine (open_any A n c g _ h).mono ?_
  rintro e w1 ⟨rfl, hb1, rd1⟩
  have s1 := hb1.size
  have r1 := rd1.lt
  go_wp2_with fail
  refine (l20Hall_any w.heap.size 0 9 _ rd1 (by omega) (by omega) (by omega)).mono ?_
  rintro e w2 ⟨v, u, gs, rs, rfl, sv, su, l1, l2, o2, rd2⟩
  go_wp2
  go_ret2
  exact ⟨v, u, gs, rs, rfl, sv.1, su.1, l1, l2, hb1.trans (o2.below (Nat.le_refl _) s1)⟩

theorem drawHallBest_any (A : Option Addr) (n c : Nat) (g : Nat → Int) (w : World) (h : Bytes w A n c g) : Calls Try.prog 33 #[.slice A n c] w (HallDrawn w) := by
  go_enter Try.func33, Try.ntmps33
  go_wp2_with fail
  refine (open_any A n c g _ h).mono ?_
  rintro e w1 ⟨rfl, hb1, rd1⟩
  have s1 := hb1.size
  have r1 := rd1.lt
  go_wp2_with fail
  refine (l20Hall_any w.heap.size 0 9 _ rd1 (by omega) (by omega) (by omega)).mono ?_
  rintro e w2 ⟨v, u, gs, rs, rfl, sv, su, l1, l2, o2, rd2⟩
  go_wp2
  go_ret2
  exact ⟨v, u, gs, rs, rfl, sv.1, su.1, l1, l2, hb1.trans (o2.below (Nat.le_refl _) s1)⟩

set_option maxHeartbeats 2000000 in
theorem walk_FnHallOk (A : Option Addr) (n c : Nat) (g : Nat → Int) (w : World) (hB : Bytes w A n c g) : Calls Try.prog 8 #[.slice A n c] w fun e w' => e = .returned (.bool true) ∧ Below w.heap.size w w' := by
  by_cases hn : 1048576 < n
  · have hn' : (1048576 : Int) < (n : Int) := by omega
    go_enter Try.func8, Try.ntmps8
    go_wp2
    go_ret
    exact ⟨rfl, by (repeat' (first | (with_reducible exact Below.refl _ _) | (with_reducible assumption) | (with_reducible exact bundrew (by assumption)) | (with_reducible refine balloc ?_ _) | (with_reducible refine bset ?_ _ ?_ _) | (with_reducible refine Below.drew ?_) | (with_reducible refine bdrewN ?_ _) | (with_reducible refine bvia (by assumption) ?_) | (with_reducible refine Below.trans ?_ (by assumption)) | omega | (simp; omega) | (simp; done)))⟩
  · have hn' : (n : Int) ≤ 1048576 := by omega
    go_enter Try.func8, Try.ntmps8
    go_wp2_with fail
    refine (drawHallOk_any A n c g _ hB).mono ?_
    rintro x wd ⟨v, u, gs, rs, rfl, ⟨A1, c1, rfl, _, _, I1⟩, ⟨A2, c2, rfl, _, _, I2⟩, l1, l2, hbd⟩
    have hno : hallB gs [] = false := hallB_no (fun h => by have := h.2.1; simp at this)
    go_wp2_with fail
    refine (hallOk_impl _ _ _ gs _ _ _ rs _ I1 I2).mono ?_
    rintro x w' ⟨rfl, rfl⟩
    go_wp2_with fail
    refine (hallOk_spec _ _ _ gs _ _ _ rs _ I1 I2).mono ?_
    rintro x w' ⟨rfl, rfl⟩
    cases hh : hallB gs rs
    · go_wp2_with fail
      refine (hallOk_impl _ _ _ gs _ _ _ [] _ I1 (Ints.nil _)).mono ?_
      rintro x w' ⟨rfl, rfl⟩
      go_wp2_with (go_at_call 28; refine (alive_any _).mono ?_; rintro x w1 ⟨rfl, hb1⟩)
      go_ret
      exact ⟨rfl, by (repeat' (first | (with_reducible exact Below.refl _ _) | (with_reducible assumption) | (with_reducible exact bundrew (by assumption)) | (with_reducible refine balloc ?_ _) | (with_reducible refine bset ?_ _ ?_ _) | (with_reducible refine Below.drew ?_) | (with_reducible refine bdrewN ?_ _) | (with_reducible refine bvia (by assumption) ?_) | (with_reducible refine Below.trans ?_ (by assumption)) | omega | (simp; omega) | (simp; done)))⟩
    · have hyes : hallB [] rs = true := by
        obtain ⟨b1, b2, b3, b4, b5⟩ := hallB_iff.1 hh
        exact hallB_iff.2 ⟨by simp, b2, b3, by simp [allB], b5⟩
      go_wp2_with fail
      refine (hallOk_impl _ _ _ [] _ _ _ rs _ (Ints.nil _) I2).mono ?_
      rintro x w' ⟨rfl, rfl⟩
      go_wp2_with fail
      refine (hallOk_impl _ _ _ gs _ _ _ [] _ I1 (Ints.nil _)).mono ?_
      rintro x w' ⟨rfl, rfl⟩
      go_wp2_with (go_at_call 28; refine (alive_any _).mono ?_; rintro x w1 ⟨rfl, hb1⟩)
      go_ret
      exact ⟨rfl, by (repeat' (first | (with_reducible exact Below.refl _ _) | (with_reducible assumption) | (with_reducible exact bundrew (by assumption)) | (with_reducible refine balloc ?_ _) | (with_reducible refine bset ?_ _ ?_ _) | (with_reducible refine Below.drew ?_) | (with_reducible refine bdrewN ?_ _) | (with_reducible refine bvia (by assumption) ?_) | (with_reducible refine Below.trans ?_ (by assumption)) | omega | (simp; omega) | (simp; done)))⟩
end Go.Proofs.Ytikoldnejkhepaa
