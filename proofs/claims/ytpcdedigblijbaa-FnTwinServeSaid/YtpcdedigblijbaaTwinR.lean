/- Drawn shafts and moves: contracts of l20Twin, l20TwinMove and the Draw functions of this chapter. -/
import Derived.Test.YtpcdedigblijbaaTwinD
import Derived.Test.YtpcdedigblijbaaDraw
import Derived.Test.YtpcdedigblijbaaFloors
namespace Go.Proofs.Ytpcdedigblijbaa
open Go.ChangeShapes Go.WideShapes Go.ChangeAt Go.RowKit

/-- Some shaft; only the reader's block has changed, by at most five picks. -/
def TwinOut (w : World) (r N : Nat) (e : Ending) (w' : World) : Prop := ∃ f l h : Int, e = .returned (.agg #[.int .i64 f, .int .i64 l, .int .i64 h]) ∧ Only r w w' ∧ Rd w' r (N + 6)
/-- The same, with bounds. -/
def TwinOutB (w : World) (r N : Nat) (e : Ending) (w' : World) : Prop := ∃ f l h : Int, e = .returned (.agg #[.int .i64 f, .int .i64 l, .int .i64 h]) ∧ Only r w w' ∧ Rd w' r (N + 6) ∧ 1 ≤ f ∧ f ≤ 9

set_option maxHeartbeats 1000000 in
theorem l20TwinB_any (r N : Nat) (n : Int) (w : World) (h : Rd w r N) (hN : N ≤ 90000) (h1 : 1 ≤ n) (h2 : n ≤ 1000) :
    Calls Try.prog 47 #[.pointer (some ⟨r, 0, none⟩), .int .i64 n] w (TwinOutB w r N) := by
  have hr := h.lt
  have hr1 : r ≠ w.heap.size := by omega
  have hr2 : r < w.heap.size := hr
  go_enter Try.func47, Try.ntmps47
  go_wp2_with fail
  refine (pick_any r N _ _ (h.above (by first | (exact Below.refl _ _) | go_grown)) (by omega) (by omega) (by omega)).mono ?_
  rintro e w1 ⟨a1, rfl, a10, a11, ow1, rd1⟩
  obtain ⟨cw10, fw10, zw10, yw10, xw10, vw10⟩ := only_facts ow1 (w.heap.size) (by first | omega | (simp; omega) | (simp; done)) (by omega)
  have sw1 := only_size ow1
  try simp at sw1
  go_wp2_with fail
  refine (pick_any r (N + 1) _ _ (rd1.above (by first | (exact Below.refl _ _) | go_grown)) (by omega) (by omega) (by omega)).mono ?_
  rintro e w2 ⟨a2, rfl, a20, a21, ow2, rd2⟩
  obtain ⟨cw20, fw20, zw20, yw20, xw20, vw20⟩ := only_facts ow2 (w.heap.size) (by first | omega | (simp; omega) | (simp; done)) (by omega)
  obtain ⟨cw21, fw21, zw21, yw21, xw21, vw21⟩ := only_facts ow2 (w1.heap.size) (by first | omega | (simp; omega) | (simp; done)) (by omega)
  have sw2 := only_size ow2
  try simp at sw2
  go_wp2_with fail
  refine (pick_any r (N + 2) _ _ (rd2.above (by first | (exact Below.refl _ _) | go_grown)) (by omega) (by omega) (by omega)).mono ?_
  rintro e w3 ⟨a3, rfl, a30, a31, ow3, rd3⟩
  obtain ⟨cw30, fw30, zw30, yw30, xw30, vw30⟩ := only_facts ow3 (w.heap.size) (by first | omega | (simp; omega) | (simp; done)) (by omega)
  obtain ⟨cw31, fw31, zw31, yw31, xw31, vw31⟩ := only_facts ow3 (w1.heap.size) (by first | omega | (simp; omega) | (simp; done)) (by omega)
  have sw3 := only_size ow3
  try simp at sw3
  go_wp2_with fail
  refine (odd_any r (N + 3) _ _ (rd3.above (by first | (exact Below.refl _ _) | go_grown)) (by omega) (by omega) (by omega)).mono ?_
  rintro e w4 ⟨b4, rfl, ow4, rd4⟩
  obtain ⟨cw40, fw40, zw40, yw40, xw40, vw40⟩ := only_facts ow4 (w.heap.size) (by first | omega | (simp; omega) | (simp; done)) (by omega)
  obtain ⟨cw41, fw41, zw41, yw41, xw41, vw41⟩ := only_facts ow4 (w1.heap.size) (by first | omega | (simp; omega) | (simp; done)) (by omega)
  have sw4 := only_size ow4
  try simp at sw4
  have k0 : w4.cell? ⟨w1.heap.size, 0, none⟩ = some (.int .i64 (2 + a1)) := by go_simp
  have k1 : w4.cell? ⟨w1.heap.size, 1, none⟩ = some (.int .i64 a3) := by go_simp
  have k2 : w4.cell? ⟨w1.heap.size, 2, none⟩ = some (.int .i64 (1 + a2)) := by go_simp
  clear cw41
  cases b4
  · go_wp2
    refine bodyPost_ret (by simp [results, Try.results47, go_sem, *]; try rfl) rfl ?_
    exact ⟨_, _, _, rfl, by (repeat' (first | (with_reducible exact Only.refl _ _) | (with_reducible assumption) | (with_reducible refine Only.alloc ?_ _) | (with_reducible refine Only.set ?_ _ ?_ _) | (with_reducible refine Only.drew ?_) | (with_reducible refine Only.drewN ?_ _) | (with_reducible refine Only.via (by assumption) ?_) | (refine .inr ?_; omega) | (refine .inr ?_; simp; omega) | omega | (simp; omega) | (simp; done))), (rd4.above (by first | (exact Below.refl _ _) | go_grown)).mono (by omega), by omega, by omega⟩
  ·
    go_wp2_with fail
    refine (pick_any r (N + 4) _ _ (rd4.above (by first | (exact Below.refl _ _) | go_grown)) (by omega) (by omega) (by omega)).mono ?_
    rintro e w5 ⟨a5, rfl, a50, a51, ow5, rd5⟩
    obtain ⟨cw50, fw50, zw50, yw50, xw50, vw50⟩ := only_facts ow5 (w.heap.size) (by first | omega | (simp; omega) | (simp; done)) (by omega)
    obtain ⟨cw51, fw51, zw51, yw51, xw51, vw51⟩ := only_facts ow5 (w1.heap.size) (by first | omega | (simp; omega) | (simp; done)) (by omega)
    have sw5 := only_size ow5
    try simp at sw5
    go_wp2_with (go_at_call 51; go_must (refine (pick_any r (N + 5) _ _ (rd5.above (by first | (exact Below.refl _ _) | go_grown)) (by omega) (by omega) (by omega)).mono ?_; rintro e w6 ⟨a6, rfl, a60, a61, ow6, rd6⟩; obtain ⟨cw60, fw60, zw60, yw60, xw60, vw60⟩ := only_facts ow6 (w.heap.size) (by first | omega | (simp; omega) | (simp; done)) (by omega); obtain ⟨cw61, fw61, zw61, yw61, xw61, vw61⟩ := only_facts ow6 (w1.heap.size) (by first | omega | (simp; omega) | (simp; done)) (by omega); obtain ⟨cw62, fw62, zw62, yw62, xw62, vw62⟩ := only_facts ow6 (w5.heap.size) (by first | omega | (simp; omega) | (simp; done)) (by omega); have sw6 := only_size ow6; (try simp at sw6); obtain rfl | rfl : a6 = 0 ∨ a6 = 1 := (by omega)))
    all_goals refine bodyPost_ret (by simp [results, Try.results47, go_sem, *]; try rfl) rfl ?_
    all_goals refine ⟨_, _, _, rfl, by (repeat' (first | (with_reducible exact Only.refl _ _) | (with_reducible assumption) | (with_reducible refine Only.alloc ?_ _) | (with_reducible refine Only.set ?_ _ ?_ _) | (with_reducible refine Only.drew ?_) | (with_reducible refine Only.drewN ?_ _) | (with_reducible refine Only.via (by assumption) ?_) | (refine .inr ?_; omega) | (refine .inr ?_; simp; omega) | omega | (simp; omega) | (simp; done))), ?_, by omega, by omega⟩
    all_goals first | exact (rd6.above (by first | (exact Below.refl _ _) | go_grown)).mono (by omega) | exact (rd5.above (by first | (exact Below.refl _ _) | go_grown)).mono (by omega)

theorem l20Twin_any (r N : Nat) (n : Int) (w : World) (h : Rd w r N) (hN : N ≤ 90000) (h1 : 1 ≤ n) (h2 : n ≤ 1000) :
    Calls Try.prog 47 #[.pointer (some ⟨r, 0, none⟩), .int .i64 n] w (TwinOut w r N) := (l20TwinB_any r N n w h hN h1 h2).mono fun _ _ ⟨f, l, h, a, b, c, _⟩ => ⟨f, l, h, a, b, c⟩

/-- Some shaft, in new memory alone. -/
def TwinDrawn (w : World) (e : Ending) (w' : World) : Prop := ∃ f l h : Int, e = .returned (.agg #[.int .i64 f, .int .i64 l, .int .i64 h]) ∧ Below w.heap.size w w'

theorem drawTwinValid_any (A : Option Addr) (n c : Nat) (g : Nat → Int) (w : World) (h : Bytes w A n c g) : Calls Try.prog 35 #[.slice A n c] w (TwinDrawn w) := by
  go_enter Try.func35, Try.ntmps35
  go_wp2_with fail
  refine (open_any A n c g _ (h.keep (by simp) (fun p hp => World.cell?_alloc_lt _ _ _ hp))).mono ?_
  rintro e w1 ⟨rfl, hb1, rd1⟩
  rw [World.size_alloc] at rd1
  obtain ⟨c1, f1, z1, y1, x1, s1⟩ := bfacts5 hb1
  simp at s1
  go_wp2_with fail
  refine (l20Twin_any (w.heap.size + 1) 0 _ _ rd1 (by omega) (by omega) (by omega)).mono ?_
  rintro e w2 ⟨f, l, h, rfl, ow2, rd2⟩
  obtain ⟨cw20, fw20, zw20, yw20, xw20, vw20⟩ := only_facts ow2 (w.heap.size) (by first | omega | (simp; omega) | (simp; done)) (by omega)
  have sw2 := only_size ow2
  try simp at sw2
  go_wp2
  refine bodyPost_ret (by simp [results, Try.results35, go_sem, *]; try rfl) rfl ?_
  exact ⟨_, _, _, rfl, by (repeat' (first | (with_reducible exact Below.refl _ _) | (with_reducible assumption) | (with_reducible exact bundrew (by assumption)) | (with_reducible refine balloc ?_ _) | (with_reducible refine bset ?_ _ ?_ _) | (with_reducible refine Below.drew ?_) | (with_reducible refine bdrewN ?_ _) | (with_reducible refine bonly (by assumption) ?_ ?_) | (with_reducible refine bvia (by assumption) ?_) | (with_reducible refine Below.trans ?_ (by assumption)) | omega | (simp; omega) | (simp; done)))⟩
end Go.Proofs.Ytpcdedigblijbaa
