/- Drawn modes, stops, calls with a stop, and the draws of FnFireTarget: contracts. -/
import Derived.Test.YtmoifakcjmdghaaFtM
namespace Go.Proofs.Ytmoifakcjmdghaa
open Go.ChangeShapes Go.WideShapes Go.ChangeAt Go.RowKit

/-- Some number between -1000 and 1000; only the reader has changed, by at most two picks. -/
def NumOut (w : World) (r N : Nat) (e : Ending) (w' : World) : Prop := ∃ x : Int, e = .returned (.int .i64 x) ∧ -1000 ≤ x ∧ x ≤ 1000 ∧ Only r w w' ∧ Rd w' r (N + 2)

set_option maxHeartbeats 1000000 in
theorem l20Mode_any (r N : Nat) (n : Int) (w : World) (h : Rd w r N) (hN : N ≤ 90000) (h1 : 1 ≤ n) (h2 : n ≤ 1000) : Calls Try.prog 32 #[.pointer (some ⟨r, 0, none⟩), .int .i64 n] w (NumOut w r N) := by
  have hr := h.lt
  go_enter Try.func32, Try.ntmps32
  go_wp2_with fail
  refine (odd_any r N _ _ h (by omega) (by omega) (by omega)).mono ?_
  rintro e w1 ⟨b1, rfl, ow1, rd1⟩
  have sw1 := only_size ow1
  try simp at sw1
  cases b1
  · go_wp2_with fail
    refine (pick_any r (N + 1) _ _ (rd1.above (by first | (exact Below.refl _ _) | go_grown)) (by omega) (by omega) (by omega)).mono ?_
    rintro e w2 ⟨a2, rfl, a20, a21, ow2, rd2⟩
    have sw2 := only_size ow2
    try simp at sw2
    go_wp2
    go_ret
    exact ⟨_, rfl, by omega, by omega, by (repeat' (first | (with_reducible exact Only.refl _ _) | (with_reducible assumption) | (with_reducible refine Only.alloc ?_ _) | (with_reducible refine Only.set ?_ _ ?_ _) | (with_reducible refine Only.drew ?_) | (with_reducible refine Only.drewN ?_ _) | (with_reducible refine Only.via (by assumption) ?_) | (refine .inr ?_; omega) | (refine .inr ?_; simp; omega) | omega | (simp; omega) | (simp; done))), rd2.mono (by omega)⟩
  ·
    go_wp2_with fail
    refine (pick_any r (N + 1) _ _ (rd1.above (by first | (exact Below.refl _ _) | go_grown)) (by omega) (by omega) (by omega)).mono ?_
    rintro e w2 ⟨a2, rfl, a20, a21, ow2, rd2⟩
    obtain ⟨cw20, fw20, zw20, yw20, xw20, vw20⟩ := only_facts ow2 (w1.heap.size) (by first | omega | (simp; omega) | (simp; done)) (by omega)
    have sw2 := only_size ow2
    try simp at sw2
    obtain rfl | rfl : a2 = 0 ∨ a2 = 1 := by omega
    all_goals
      go_wp2
      go_ret
      exact ⟨_, rfl, by omega, by omega, by (repeat' (first | (with_reducible exact Only.refl _ _) | (with_reducible assumption) | (with_reducible refine Only.alloc ?_ _) | (with_reducible refine Only.set ?_ _ ?_ _) | (with_reducible refine Only.drew ?_) | (with_reducible refine Only.drewN ?_ _) | (with_reducible refine Only.via (by assumption) ?_) | (refine .inr ?_; omega) | (refine .inr ?_; simp; omega) | omega | (simp; omega) | (simp; done))), rd2.mono (by omega)⟩

/-- A drawn floor and direction. -/
def StopDrawn (w : World) (r N : Nat) (e : Ending) (w' : World) : Prop := ∃ f d : Int, e = .returned (.agg #[.int .i64 f, .int .i64 d]) ∧ Only r w w' ∧ Rd w' r (N + 10)

set_option maxRecDepth 100000 in
set_option maxHeartbeats 2000000 in
theorem l20Stop_any (r N n : Nat) (w : World) (h : Rd w r N) (hN : N ≤ 1000) (h1 : 1 ≤ n) (h8 : n ≤ 8) : Calls Try.prog 43 #[.pointer (some ⟨r, 0, none⟩), .int .i64 n, .int .i64 14] w (StopDrawn w r N) := by
  have hr := h.lt
  have a1 : 1 ≤ (n : Int) := by omega
  have a8 : (n : Int) ≤ 8 := by omega
  go_enter Try.func43, Try.ntmps43
  go_wp2_with fail
  refine (pick_any r N _ _ (h.above (by first | (exact Below.refl _ _) | go_grown)) (by omega) (by first | omega | (split <;> omega)) (by first | omega | (split <;> omega))).mono ?_
  rintro e w1 ⟨x1, rfl, x10, x11, ow1, rd1⟩
  clear x11
  obtain ⟨cw10, fw10, zw10, yw10, xw10, vw10⟩ := only_facts ow1 (w.heap.size) (by first | omega | (simp; omega) | (simp; done)) (by omega)
  have sw1 := only_size ow1
  try simp at sw1
  go_wp2_with fail
  refine (pick_any r (N + 1) _ _ (rd1.above (by first | (exact Below.refl _ _) | go_grown)) (by omega) (by omega) (by omega)).mono ?_
  rintro e w2 ⟨x2, rfl, x20, x21, ow2, rd2⟩
  obtain ⟨cw20, fw20, zw20, yw20, xw20, vw20⟩ := only_facts ow2 (w.heap.size) (by first | omega | (simp; omega) | (simp; done)) (by omega)
  have sw2 := only_size ow2
  try simp at sw2
  obtain rfl | rfl : x2 = 0 ∨ x2 = 1 := by omega
  all_goals
    go_wp2_with fail
    refine (odd_any r (N + 2) _ _ (rd2.above (by first | (exact Below.refl _ _) | go_grown)) (by omega) (by omega) (by omega)).mono ?_
    rintro e w3 ⟨b3, rfl, ow3, rd3⟩
    obtain ⟨cw30, fw30, zw30, yw30, xw30, vw30⟩ := only_facts ow3 (w.heap.size) (by first | omega | (simp; omega) | (simp; done)) (by omega)
    obtain ⟨cw31, fw31, zw31, yw31, xw31, vw31⟩ := only_facts ow3 (w2.heap.size) (by first | omega | (simp; omega) | (simp; done)) (by omega)
    have sw3 := only_size ow3
    try simp at sw3
    cases b3
    · go_wp2
      refine bodyPost_ret (by simp [results, Try.results43, go_sem, *]; try rfl) rfl ?_
      exact ⟨_, _, rfl, by (repeat' (first | (with_reducible exact Only.refl _ _) | (with_reducible assumption) | (with_reducible refine Only.alloc ?_ _) | (with_reducible refine Only.set ?_ _ ?_ _) | (with_reducible refine Only.drew ?_) | (with_reducible refine Only.drewN ?_ _) | (with_reducible refine Only.via (by assumption) ?_) | (refine .inr ?_; omega) | (refine .inr ?_; simp; omega) | omega | (simp; omega) | (simp; done))), (rd3.above (by first | (exact Below.refl _ _) | go_grown)).mono (by omega)⟩
    · go_wp2_with fail
      refine (pick_any r (N + 3) _ _ (rd3.above (by first | (exact Below.refl _ _) | go_grown)) (by omega) (by omega) (by omega)).mono ?_
      rintro e w4 ⟨x4, rfl, x40, x41, ow4, rd4⟩
      obtain ⟨cw40, fw40, zw40, yw40, xw40, vw40⟩ := only_facts ow4 (w.heap.size) (by first | omega | (simp; omega) | (simp; done)) (by omega)
      obtain ⟨cw41, fw41, zw41, yw41, xw41, vw41⟩ := only_facts ow4 (w2.heap.size) (by first | omega | (simp; omega) | (simp; done)) (by omega)
      have sw4 := only_size ow4
      try simp at sw4
      obtain rfl | rfl : x4 = 0 ∨ x4 = 1 := by omega
      all_goals
        go_wp2_with fail
        refine (pick_any r (N + 4) _ _ (rd4.above (by first | (exact Below.refl _ _) | go_grown)) (by omega) (by omega) (by omega)).mono ?_
        rintro e w5 ⟨x5, rfl, x50, x51, ow5, rd5⟩
        obtain ⟨cw50, fw50, zw50, yw50, xw50, vw50⟩ := only_facts ow5 (w.heap.size) (by first | omega | (simp; omega) | (simp; done)) (by omega)
        obtain ⟨cw51, fw51, zw51, yw51, xw51, vw51⟩ := only_facts ow5 (w2.heap.size) (by first | omega | (simp; omega) | (simp; done)) (by omega)
        obtain ⟨cw52, fw52, zw52, yw52, xw52, vw52⟩ := only_facts ow5 (w4.heap.size) (by first | omega | (simp; omega) | (simp; done)) (by omega)
        have sw5 := only_size ow5
        try simp at sw5
        obtain rfl | rfl : x5 = 0 ∨ x5 = 1 := by omega
        all_goals
          go_wp2
          refine bodyPost_ret (by simp [results, Try.results43, go_sem, *]; try rfl) rfl ?_
          exact ⟨_, _, rfl, by (repeat' (first | (with_reducible exact Only.refl _ _) | (with_reducible assumption) | (with_reducible refine Only.alloc ?_ _) | (with_reducible refine Only.set ?_ _ ?_ _) | (with_reducible refine Only.drew ?_) | (with_reducible refine Only.drewN ?_ _) | (with_reducible refine Only.via (by assumption) ?_) | (refine .inr ?_; omega) | (refine .inr ?_; simp; omega) | omega | (simp; omega) | (simp; done))), (rd5.above (by first | (exact Below.refl _ _) | go_grown)).mono (by omega)⟩
end Go.Proofs.Ytmoifakcjmdghaa
