/- The walk of the law FnFireBack. -/
import Derived.Test.YtmoifakcjmdghaaDoorFireD
namespace Go.Proofs.YtmoifakcjmdghaaDoor
open Go.ChangeShapes Go.WideShapes Go.ChangeAt Go.RowKit

/-- Equal lists are the same. -/
theorem sameInts_any (A A' : Option Addr) (n c c' : Nat) (xs : List Int) (w : World) (hP : Ints w A n xs) (hP' : Ints w A' n xs) :
    Calls Tryd.prog 18 #[.slice A n c, .slice A' n c'] w (Qt w (.bool true)) := by
  obtain ⟨hl, hm, hc⟩ := hP
  obtain ⟨hl', hm', hc'⟩ := hP'
  have HC := Lib.hid hc
  have HC' := Lib.hid hc'
  clear hl hl' hc hc'
  go_enter Tryd.func18, Tryd.ntmps18
  go_wp2
  go_loopw [5] (fun i wr => ∃ k : Nat, k ≤ n ∧ i = .int .i64 k ∧ ∃ m, wr = w.drewN m) (fun i _ => n - (intOf i).toNat)
  case atStart => exact ⟨0, Nat.zero_le _, rfl, 0, rfl⟩
  case round =>
    obtain ⟨k, hk, rfl, m, rfl⟩ := hrel
    by_cases hlt : k < n
    · obtain ⟨b, off, rfl, hb, hcc⟩ := HC.out (by omega)
      obtain ⟨b', off', rfl, hb', hcc'⟩ := HC'.out (by omega)
      have e0 := hcc k hlt
      have e1 := hcc' k hlt
      have hlt' : (k : Int) < (n : Int) := by omega
      clear hcc hcc'
      go_wp2
      try go_quiet (fail)
      all_goals try go_wp2
      all_goals exact ⟨⟨k + 1, by omega, by go_num, _, rfl⟩, by simp [intOf]; omega⟩
    · obtain rfl : k = n := by omega
      go_wp2
      go_ret
      exact qt_drew _ _ _

theorem Tab.drewN {w : World} (h : Tab w) (m : Nat) : Tab (w.drewN m) := ⟨h.1, h.2⟩
theorem back_law (m : Int) (h0 : 0 ≤ m) (h3 : m ≤ 3) : (∀ k, k < (backL m).length → frunK m (backL m) (k + 1) < frunK m (backL m) k ∨ frunK m (backL m) k < frunK m (backL m) (k + 1)) ∧ frunK m (backL m) (backL m).length = 0 ∧ (backL m).length ≤ 3 := by
  have hc : m = 0 ∨ m = 1 ∨ m = 2 ∨ m = 3 := by omega
  rcases hc with rfl | rfl | rfl | rfl <;> decide
theorem back_out {m : Int} (h : m < 0 ∨ 3 < m) : backL m = [] := by unfold backL; rw [if_neg (by omega), if_neg (by omega), if_neg (by omega)]

set_option maxHeartbeats 2000000 in
theorem walk_FnFireBack (A : Option Addr) (n c : Nat) (g : Nat → Int) (w : World) (hT : Tab w) (hB : Bytes w A n c g) : Calls Tryd.prog 6 #[.slice A n c] w fun e w' => e = .returned (.bool true) ∧ Below w.heap.size w w' := by
  by_cases hn : 1048576 < n
  · have hn' : (1048576 : Int) < (n : Int) := by omega
    clear hT
    go_enter Tryd.func6, Tryd.ntmps6
    go_wp2
    go_ret
    exact ⟨rfl, by (repeat' (first | (with_reducible exact Below.refl _ _) | (with_reducible assumption) | (with_reducible exact bundrew (by assumption)) | (with_reducible refine balloc ?_ _) | (with_reducible refine bset ?_ _ ?_ _) | (with_reducible refine Below.drew ?_) | (with_reducible refine bdrewN ?_ _) | (with_reducible refine bvia (by assumption) ?_) | (with_reducible refine Below.trans ?_ (by assumption)) | omega | (simp; omega) | (simp; done)))⟩
  · have hn' : (n : Int) ≤ 1048576 := by omega
    have HT := Lib.hid hT
    clear hT
    go_enter Tryd.func6, Tryd.ntmps6
    go_wp2_with fail
    refine (drawFireBack_any A n c g _ hB).mono ?_
    rintro x wd ⟨m, rfl, hbd⟩
    go_wp2_with fail
    refine (back_impl _ _).mono ?_
    rintro x w1 ⟨v1, rfl, o1, hb1⟩
    obtain ⟨A1, c1, rfl⟩ := o1.shape
    have I1 := o1.ints.2
    go_wp2_with fail
    refine (back_spec _ _).mono ?_
    rintro x w2 ⟨v2, rfl, o2, hb2⟩
    obtain ⟨A2, c2, rfl⟩ := o2.shape
    go_wp2_with fail
    refine (sameInts_any _ _ _ _ _ _ _ (I1.below hb2) o2.ints.2).mono ?_
    rintro x w' ⟨rfl, m2, rfl⟩
    have T2 := Lib.hid ((((HT.out.below hbd HT.out.1).below hb1 (Nat.lt_of_lt_of_le HT.out.1 hbd.size)).below hb2 (Nat.lt_of_lt_of_le HT.out.1 (Nat.le_trans hbd.size hb1.size))))
    by_cases hx : m < 0 ∨ 3 < m
    · have hbl := back_out hx
      have hl0 : (backL m).length = 0 := by rw [hbl]; rfl
      rcases hx with hx | hx
      all_goals
        go_wp2_with (go_at_call 15; refine (alive_any _).mono ?_; rintro e w1 ⟨rfl, hb3⟩)
      all_goals go_ret
      all_goals exact ⟨rfl, by (repeat' (first | (with_reducible exact Below.refl _ _) | (with_reducible assumption) | (with_reducible exact bundrew (by assumption)) | (with_reducible refine balloc ?_ _) | (with_reducible refine bset ?_ _ ?_ _) | (with_reducible refine Below.drew ?_) | (with_reducible refine bdrewN ?_ _) | (with_reducible refine bvia (by assumption) ?_) | (with_reducible refine Below.trans ?_ (by assumption)) | omega | (simp; omega) | (simp; done)))⟩
    · obtain ⟨l1, l2, l3⟩ := back_law m (by omega) (by omega)
      have i1 : 0 ≤ m := by omega
      have i2 : m ≤ 3 := by omega
      have l3' : ((backL m).length : Int) ≤ 3 := by omega
      have L1 := Lib.hid l1
      have L2 := Lib.hid l2
      have HC := Lib.hid (I1.below hb2).2.2
      clear l1 l2 hx o1 o2 I1
      go_wp2
      go_loop [5, 6] (fun x i => ∃ k : Nat, k ≤ (backL m).length ∧ i = .int .i64 k ∧ x = .int .i64 (frunK m (backL m) k)) (fun _ i => (backL m).length - (intOf i).toNat)
      case atStart => exact ⟨0, Nat.zero_le _, rfl, rfl⟩
      case round =>
        obtain ⟨k, hk, rfl, rfl⟩ := hrel
        by_cases hlt : k < (backL m).length
        · obtain ⟨b, off, rfl, hb, hcc⟩ := HC.out (by omega)
          have e0 := hcc k hlt
          clear hcc
          have hlt' : (k : Int) < ((backL m).length : Int) := by omega
          have hne := L1.out k hlt
          rw [frunK_succ] at hne
          obtain ⟨y, hy⟩ : ∃ y, (backL m)[k]?.getD 0 = y := ⟨_, rfl⟩
          rw [hy] at e0 hne
          have HY := Lib.hid hy
          clear hy
          have e1 : (fstep (frunK m (backL m) k) y == frunK m (backL m) k) = false := by rw [beq_eq_false_iff_ne]; omega
          clear hne
          (
            go_wp2_with (go_at_call 9; refine (fstep_impl _ _ _ (Tab.drewN T2.out _)).mono ?_; rintro e w' ⟨rfl, rfl⟩))
          (
            go_round
            case rel => exact ⟨k + 1, by omega, by go_num, by rw [frunK_succ, HY.out]⟩
            case measure => simp [intOf]; omega)
        · obtain rfl : k = (backL m).length := by omega
          have h0 := L2.out
          go_wp2
          go_ret
          exact ⟨rfl, by (repeat' (first | (with_reducible exact Below.refl _ _) | (with_reducible assumption) | (with_reducible exact bundrew (by assumption)) | (with_reducible refine balloc ?_ _) | (with_reducible refine bset ?_ _ ?_ _) | (with_reducible refine Below.drew ?_) | (with_reducible refine bdrewN ?_ _) | (with_reducible refine bvia (by assumption) ?_) | (with_reducible refine Below.trans ?_ (by assumption)) | omega | (simp; omega) | (simp; done)))⟩
end Go.Proofs.YtmoifakcjmdghaaDoor
