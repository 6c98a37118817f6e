/- Drawn modes and events; FireBack; the walks of the laws FnFireStep and FnFireBack. -/
import Derived.Test.YtmoifakcjmdghaaDoorFireB
import Derived.Test.YtmoifakcjmdghaaDoorOwn
namespace Go.Proofs.YtmoifakcjmdghaaDoor
open Go.ChangeShapes Go.WideShapes Go.ChangeAt Go.RowKit

/-- Some number between -1000 and 1000; only the reader has changed, by at most two picks. -/
def NumOut (w : World) (r N : Nat) (e : Ending) (w' : World) : Prop := ∃ x : Int, e = .returned (.int .i64 x) ∧ -1000 ≤ x ∧ x ≤ 1000 ∧ Only r w w' ∧ Rd w' r (N + 2)

set_option maxHeartbeats 1000000 in
theorem l20Mode_any (r N : Nat) (n : Int) (w : World) (h : Rd w r N) (hN : N ≤ 90000) (h1 : 1 ≤ n) (h2 : n ≤ 1000) : Calls Tryd.prog 23 #[.pointer (some ⟨r, 0, none⟩), .int .i64 n] w (NumOut w r N) := by
  have hr := h.lt
  go_enter Tryd.func23, Tryd.ntmps23
  go_wp2_with fail
  refine (odd_any r N _ _ h (by omega) (by omega) (by omega)).mono ?_
  rintro e w1 ⟨b1, rfl, ow1, rd1⟩
  have sw1 := only_size ow1
  try simp at sw1
  cases b1
  · go_wp2_with fail
    refine (pick_any r (N + 1) _ _ (rd1.above (by first | (exact Below.refl _ _) | go_grown)) (by omega) (by omega) (by omega)).mono ?_
    rintro e w2 ⟨a2, rfl, a20, a21, ow2, rd2⟩
    have sw2 := only_size ow2
    try simp at sw2
    go_wp2
    go_ret
    exact ⟨_, rfl, by omega, by omega, by (repeat' (first | (with_reducible exact Only.refl _ _) | (with_reducible assumption) | (with_reducible refine Only.alloc ?_ _) | (with_reducible refine Only.set ?_ _ ?_ _) | (with_reducible refine Only.drew ?_) | (with_reducible refine Only.drewN ?_ _) | (with_reducible refine Only.via (by assumption) ?_) | (refine .inr ?_; omega) | (refine .inr ?_; simp; omega) | omega | (simp; omega) | (simp; done))), rd2.mono (by omega)⟩
  ·
    go_wp2_with fail
    refine (pick_any r (N + 1) _ _ (rd1.above (by first | (exact Below.refl _ _) | go_grown)) (by omega) (by omega) (by omega)).mono ?_
    rintro e w2 ⟨a2, rfl, a20, a21, ow2, rd2⟩
    obtain ⟨cw20, fw20, zw20, yw20, xw20, vw20⟩ := only_facts ow2 (w1.heap.size) (by first | omega | (simp; omega) | (simp; done)) (by omega)
    have sw2 := only_size ow2
    try simp at sw2
    obtain rfl | rfl : a2 = 0 ∨ a2 = 1 := by omega
    all_goals
      go_wp2
      go_ret
      exact ⟨_, rfl, by omega, by omega, by (repeat' (first | (with_reducible exact Only.refl _ _) | (with_reducible assumption) | (with_reducible refine Only.alloc ?_ _) | (with_reducible refine Only.set ?_ _ ?_ _) | (with_reducible refine Only.drew ?_) | (with_reducible refine Only.drewN ?_ _) | (with_reducible refine Only.via (by assumption) ?_) | (refine .inr ?_; omega) | (refine .inr ?_; simp; omega) | omega | (simp; omega) | (simp; done))), rd2.mono (by omega)⟩

/-- Two drawn numbers. -/
def TwoDrawn (w : World) (e : Ending) (w' : World) : Prop := ∃ x y : Int, e = .returned (.tuple #[.int .i64 x, .int .i64 y]) ∧ Below w.heap.size w w'

set_option maxHeartbeats 1000000 in
theorem drawFireStep_any (A : Option Addr) (n c : Nat) (g : Nat → Int) (w : World) (h : Bytes w A n c g) : Calls Tryd.prog 14 #[.slice A n c] w (TwoDrawn w) := by
  go_enter Tryd.func14, Tryd.ntmps14
  go_wp2_with fail
  refine (open_any A n c g _ h).mono ?_
  rintro e w1 ⟨rfl, hb1, rd1⟩
  have s1 := hb1.size
  go_wp2_with fail
  refine (l20Mode_any w.heap.size 0 _ _ rd1 (by omega) (by omega) (by omega)).mono ?_
  rintro e w2 ⟨x, rfl, x0, x1, ow2, rd2⟩
  have sw2 := only_size ow2
  try simp at sw2
  go_wp2_with fail
  refine (pick_any w.heap.size 2 _ _ rd2 (by omega) (by omega) (by omega)).mono ?_
  rintro e w3 ⟨a3, rfl, a30, a31, ow3, rd3⟩
  have sw3 := only_size ow3
  try simp at sw3
  go_wp2_with fail
  refine (pick_any w.heap.size 3 _ _ rd3 (by omega) (by omega) (by omega)).mono ?_
  rintro e w4 ⟨a4, rfl, a40, a41, ow4, rd4⟩
  have sw4 := only_size ow4
  try simp at sw4
  go_wp2
  go_ret2
  exact ⟨_, _, rfl, by (repeat' (first | (with_reducible exact Below.refl _ _) | (with_reducible assumption) | (with_reducible exact bundrew (by assumption)) | (with_reducible refine balloc ?_ _) | (with_reducible refine bset ?_ _ ?_ _) | (with_reducible refine Below.drew ?_) | (with_reducible refine bdrewN ?_ _) | (with_reducible refine bonly (by assumption) ?_ ?_) | (with_reducible refine bvia (by assumption) ?_) | (with_reducible refine Below.trans ?_ (by assumption)) | omega | (simp; omega) | (simp; done)))⟩
/-- One drawn number. -/
def OneDrawn (w : World) (e : Ending) (w' : World) : Prop := ∃ x : Int, e = .returned (.int .i64 x) ∧ Below w.heap.size w w'
theorem drawFireBack_any (A : Option Addr) (n c : Nat) (g : Nat → Int) (w : World) (h : Bytes w A n c g) : Calls Tryd.prog 16 #[.slice A n c] w (OneDrawn w) := by
  go_enter Tryd.func16, Tryd.ntmps16
  go_wp2_with fail
  refine (open_any A n c g _ h).mono ?_
  rintro e w1 ⟨rfl, hb1, rd1⟩
  have s1 := hb1.size
  go_wp2_with fail
  refine (l20Mode_any w.heap.size 0 _ _ rd1 (by omega) (by omega) (by omega)).mono ?_
  rintro e w2 ⟨x, rfl, x0, x1, ow2, rd2⟩
  have sw2 := only_size ow2
  try simp at sw2
  go_wp2
  go_ret
  exact ⟨_, rfl, by (repeat' (first | (with_reducible exact Below.refl _ _) | (with_reducible assumption) | (with_reducible exact bundrew (by assumption)) | (with_reducible refine balloc ?_ _) | (with_reducible refine bset ?_ _ ?_ _) | (with_reducible refine Below.drew ?_) | (with_reducible refine bdrewN ?_ _) | (with_reducible refine bonly (by assumption) ?_ ?_) | (with_reducible refine bvia (by assumption) ?_) | (with_reducible refine Below.trans ?_ (by assumption)) | omega | (simp; omega) | (simp; done)))⟩

theorem fstep_law (m e : Int) : (fstep m e < 0 → fstep m e = -1) ∧ (0 ≤ fstep m e → (fstep m e ≠ 0 ∨ m = 0 ∨ m = 2 ∧ e = 4) ∧ (m ≠ 0 ∨ fstep m e = m ∨ e = 0) ∧ fstep m e ≤ 3) := by
  unfold fstep
  repeat' split
  all_goals omega

set_option maxHeartbeats 2000000 in
theorem walk_FnFireStep (A : Option Addr) (n c : Nat) (g : Nat → Int) (w : World) (hT : Tab w) (hB : Bytes w A n c g) : Calls Tryd.prog 5 #[.slice A n c] w fun e w' => e = .returned (.bool true) ∧ Below w.heap.size w w' := by
  by_cases hn : 1048576 < n
  · have hn' : (1048576 : Int) < (n : Int) := by omega
    clear hT
    go_enter Tryd.func5, Tryd.ntmps5
    go_wp2
    go_ret
    exact ⟨rfl, by (repeat' (first | (with_reducible exact Below.refl _ _) | (with_reducible assumption) | (with_reducible exact bundrew (by assumption)) | (with_reducible refine balloc ?_ _) | (with_reducible refine bset ?_ _ ?_ _) | (with_reducible refine Below.drew ?_) | (with_reducible refine bdrewN ?_ _) | (with_reducible refine bvia (by assumption) ?_) | (with_reducible refine Below.trans ?_ (by assumption)) | omega | (simp; omega) | (simp; done)))⟩
  · have hn' : (n : Int) ≤ 1048576 := by omega
    have HT := Lib.hid hT
    clear hT
    go_enter Tryd.func5, Tryd.ntmps5
    go_wp2_with fail
    refine (drawFireStep_any A n c g _ hB).mono ?_
    rintro x wd ⟨m, e, rfl, hbd⟩
    go_wp2_with fail
    refine (fstep_impl _ _ _ (HT.out.below hbd HT.out.1)).mono ?_
    rintro x w' ⟨rfl, rfl⟩
    go_wp2_with fail
    refine (fstep_spec _ _ _).mono ?_
    rintro x w' ⟨rfl, rfl⟩
    obtain ⟨l1, l2⟩ := fstep_law m e
    by_cases hx : fstep m e < 0
    · have hx1 := l1 hx
      have hx2 : (fstep m e == -1) = true := by simp [hx1]
      clear l1 l2 hx1
      go_wp2_with (go_at_call 15; refine (alive_any _).mono ?_; rintro x w1 ⟨rfl, hb1⟩)
      go_ret
      exact ⟨rfl, by (repeat' (first | (with_reducible exact Below.refl _ _) | (with_reducible assumption) | (with_reducible exact bundrew (by assumption)) | (with_reducible refine balloc ?_ _) | (with_reducible refine bset ?_ _ ?_ _) | (with_reducible refine Below.drew ?_) | (with_reducible refine bdrewN ?_ _) | (with_reducible refine bvia (by assumption) ?_) | (with_reducible refine Below.trans ?_ (by assumption)) | omega | (simp; omega) | (simp; done)))⟩
    · obtain ⟨l3, l4, l5⟩ := l2 (by omega)
      have hx1 : 0 ≤ fstep m e := by omega
      clear l1 l2 hx
      have L3 := Lib.hid l3
      have L4 := Lib.hid l4
      clear l3 l4
      go_wp2
      all_goals go_ret
      all_goals refine ⟨ret_bool ?_, by (repeat' (first | (with_reducible exact Below.refl _ _) | (with_reducible assumption) | (with_reducible exact bundrew (by assumption)) | (with_reducible refine balloc ?_ _) | (with_reducible refine bset ?_ _ ?_ _) | (with_reducible refine Below.drew ?_) | (with_reducible refine bdrewN ?_ _) | (with_reducible refine bvia (by assumption) ?_) | (with_reducible refine Below.trans ?_ (by assumption)) | omega | (simp; omega) | (simp; done)))⟩
      all_goals have l3 := L3.out
      all_goals have l4 := L4.out
      all_goals try (subst ‹m = 0›)
      all_goals first | rfl | (exfalso; omega) | (simp; omega)

/-- The events that lead back. -/
def backL (m : Int) : List Int := if m = 1 then [1, 4] else if m = 2 then [4] else if m = 3 then [3, 1, 4] else []
/-- A slice of numbers, in new memory but for nil. -/
def IntsOut (w : World) (xs : List Int) (e : Ending) (w' : World) : Prop := ∃ v : Value, e = .returned v ∧ OwnI w' w.heap.size v xs ∧ Below w.heap.size w w'

theorem back_impl (m : Int) (w : World) : Calls Tryd.prog 17 #[.int .i64 m] w (IntsOut w (backL m)) := by
  rcases beq_or m 1 with ⟨e1, g1⟩ | ⟨e1, g1⟩ <;> rcases beq_or m 2 with ⟨e2, g2⟩ | ⟨e2, g2⟩ <;> rcases beq_or m 3 with ⟨e3, g3⟩ | ⟨e3, g3⟩ <;> try omega
  · have hb : backL m = [1, 4] := by unfold backL; rw [if_pos g1]
    rw [hb]
    clear g1 g2 g3 hb
    go_enter Tryd.func17, Tryd.ntmps17
    go_wp2
    go_ret
    exact ⟨_, rfl, OwnI.made (Nat.le_refl _) (heap_alloc_new w _) (by unfold maxLen; decide), by (repeat' (first | (with_reducible exact Below.refl _ _) | (with_reducible assumption) | (with_reducible exact bundrew (by assumption)) | (with_reducible refine balloc ?_ _) | (with_reducible refine bset ?_ _ ?_ _) | (with_reducible refine Below.drew ?_) | (with_reducible refine bdrewN ?_ _) | (with_reducible refine bvia (by assumption) ?_) | (with_reducible refine Below.trans ?_ (by assumption)) | omega | (simp; omega) | (simp; done)))⟩
  · have hb : backL m = [4] := by unfold backL; rw [if_neg (by omega), if_pos g2]
    rw [hb]
    clear g1 g2 g3 hb
    go_enter Tryd.func17, Tryd.ntmps17
    go_wp2
    go_ret
    exact ⟨_, rfl, OwnI.made (Nat.le_refl _) (heap_alloc_new w _) (by unfold maxLen; decide), by (repeat' (first | (with_reducible exact Below.refl _ _) | (with_reducible assumption) | (with_reducible exact bundrew (by assumption)) | (with_reducible refine balloc ?_ _) | (with_reducible refine bset ?_ _ ?_ _) | (with_reducible refine Below.drew ?_) | (with_reducible refine bdrewN ?_ _) | (with_reducible refine bvia (by assumption) ?_) | (with_reducible refine Below.trans ?_ (by assumption)) | omega | (simp; omega) | (simp; done)))⟩
  · have hb : backL m = [3, 1, 4] := by unfold backL; rw [if_neg (by omega), if_neg (by omega), if_pos g3]
    rw [hb]
    clear g1 g2 g3 hb
    go_enter Tryd.func17, Tryd.ntmps17
    go_wp2
    go_ret
    exact ⟨_, rfl, OwnI.made (Nat.le_refl _) (heap_alloc_new w _) (by unfold maxLen; decide), by (repeat' (first | (with_reducible exact Below.refl _ _) | (with_reducible assumption) | (with_reducible exact bundrew (by assumption)) | (with_reducible refine balloc ?_ _) | (with_reducible refine bset ?_ _ ?_ _) | (with_reducible refine Below.drew ?_) | (with_reducible refine bdrewN ?_ _) | (with_reducible refine bvia (by assumption) ?_) | (with_reducible refine Below.trans ?_ (by assumption)) | omega | (simp; omega) | (simp; done)))⟩
  · have hb : backL m = [] := by unfold backL; rw [if_neg (by omega), if_neg (by omega), if_neg (by omega)]
    rw [hb]
    clear g1 g2 g3 hb
    go_enter Tryd.func17, Tryd.ntmps17
    go_wp2
    go_ret
    exact ⟨_, rfl, OwnI.nil _ _, by (repeat' (first | (with_reducible exact Below.refl _ _) | (with_reducible assumption) | (with_reducible exact bundrew (by assumption)) | (with_reducible refine balloc ?_ _) | (with_reducible refine bset ?_ _ ?_ _) | (with_reducible refine Below.drew ?_) | (with_reducible refine bdrewN ?_ _) | (with_reducible refine bvia (by assumption) ?_) | (with_reducible refine Below.trans ?_ (by assumption)) | omega | (simp; omega) | (simp; done)))⟩
end Go.Proofs.YtmoifakcjmdghaaDoor
