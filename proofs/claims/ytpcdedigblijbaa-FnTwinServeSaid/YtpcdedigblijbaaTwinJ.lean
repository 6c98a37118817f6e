/- Drawn moves, lists of moves and floors: contracts. -/
import Derived.Test.YtpcdedigblijbaaTwinR
import Derived.Test.YtpcdedigblijbaaMarkP
import Derived.Test.YtpcdedigblijbaaTwinI
namespace Go.Proofs.Ytpcdedigblijbaa
open Go.ChangeShapes Go.WideShapes Go.ChangeAt Go.RowKit

/-- Some move; only the reader has changed. -/
def MoveOut (w : World) (r N : Nat) (e : Ending) (w' : World) : Prop := ∃ c t : Int, e = .returned (.agg #[.int .i64 c, .int .i64 t]) ∧ Only r w w' ∧ Rd w' r (N + 4)

set_option maxHeartbeats 1000000 in
theorem l20TwinMove_any (r N : Nat) (f l h : Int) (w : World) (hR : Rd w r N) (hN : N ≤ 90000) (h1 : 0 ≤ f) (h2 : f ≤ 1000) :
    Calls Try.prog 50 #[.pointer (some ⟨r, 0, none⟩), .agg #[.int .i64 f, .int .i64 l, .int .i64 h]] w (MoveOut w r N) := by
  have hr := hR.lt
  have hr1 : r ≠ w.heap.size := by omega
  have hr2 : r ≠ w.heap.size + 1 := by omega
  have e1 : IntKind.i64.wrap (f + 1) = f + 1 := IntWalk.i64_in _ ⟨by omega, by omega⟩
  go_enter Try.func50, Try.ntmps50
  go_wp2_with fail
  go_region_held3 (fun w' => w'.cell? ⟨w.heap.size, 0, none⟩ = some (.int .i64 f) ∧ w.heap.size + 2 ≤ w'.heap.size)
    (first | (refine ⟨?_, ?_⟩ <;> first | omega | (go_simp; done) | (simp; omega)))
    (first
      | (have _t := rd3; (go_at_call 51; go_must (refine (pick_any r (N + 3) 20 _ (rd3.above (by first | (exact Below.refl _ _) | go_grown)) (by omega) (by omega) (by omega)).mono ?_; rintro e w4 ⟨a4, rfl, a40, a41, ow4, rd4⟩; obtain ⟨cw40, fw40, zw40, yw40, xw40, vw40⟩ := only_facts ow4 (w.heap.size) (by first | omega | (simp; omega) | (simp; done)) (by omega); obtain ⟨cw41, fw41, zw41, yw41, xw41, vw41⟩ := only_facts ow4 (w.heap.size + 1) (by first | omega | (simp; omega) | (simp; done)) (by omega); have sw4 := only_size ow4; (try simp at sw4))))
      | (have _t := rd2; (go_at_call 51; go_must (refine (pick_any r (N + 2) (f + 1) _ (rd2.above (by first | (exact Below.refl _ _) | go_grown)) (by omega) (by omega) (by omega)).mono ?_; rintro e w3 ⟨a3, rfl, a30, a31, ow3, rd3⟩; obtain ⟨cw30, fw30, zw30, yw30, xw30, vw30⟩ := only_facts ow3 (w.heap.size) (by first | omega | (simp; omega) | (simp; done)) (by omega); obtain ⟨cw31, fw31, zw31, yw31, xw31, vw31⟩ := only_facts ow3 (w.heap.size + 1) (by first | omega | (simp; omega) | (simp; done)) (by omega); have sw3 := only_size ow3; (try simp at sw3))))
      | (have _t := rd1; (go_at_call 51; go_must (refine (pick_any r (N + 1) 30 _ (rd1.above (by first | (exact Below.refl _ _) | go_grown)) (by omega) (by omega) (by omega)).mono ?_; rintro e w2 ⟨a2, rfl, a20, a21, ow2, rd2⟩; obtain ⟨cw20, fw20, zw20, yw20, xw20, vw20⟩ := only_facts ow2 (w.heap.size) (by first | omega | (simp; omega) | (simp; done)) (by omega); obtain ⟨cw21, fw21, zw21, yw21, xw21, vw21⟩ := only_facts ow2 (w.heap.size + 1) (by first | omega | (simp; omega) | (simp; done)) (by omega); have sw2 := only_size ow2; (try simp at sw2))))
      | (go_at_call 51; go_must (refine (pick_any r N 2 _ (hR.above (by first | (exact Below.refl _ _) | go_grown)) (by omega) (by omega) (by omega)).mono ?_; rintro e w1 ⟨a1, rfl, a10, a11, ow1, rd1⟩; obtain ⟨cw10, fw10, zw10, yw10, xw10, vw10⟩ := only_facts ow1 (w.heap.size) (by first | omega | (simp; omega) | (simp; done)) (by omega); obtain ⟨cw11, fw11, zw11, yw11, xw11, vw11⟩ := only_facts ow1 (w.heap.size + 1) (by first | omega | (simp; omega) | (simp; done)) (by omega); have sw1 := only_size ow1; (try simp at sw1))))
  all_goals go_wp2
  all_goals refine bodyPost_ret (by simp [results, Try.results50, go_sem, *]; try rfl) rfl ?_
  all_goals exact ⟨_, _, rfl, by (repeat' (first | (with_reducible exact Only.refl _ _) | (with_reducible assumption) | (with_reducible refine Only.alloc ?_ _) | (with_reducible refine Only.set ?_ _ ?_ _) | (with_reducible refine Only.drew ?_) | (with_reducible refine Only.drewN ?_ _) | (with_reducible refine Only.via (by assumption) ?_) | (refine .inr ?_; omega) | (refine .inr ?_; simp; omega) | omega | (simp; omega) | (simp; done))), rd4.above (by first | (exact Below.refl _ _) | go_grown)⟩

theorem Bytes.alloc {w : World} {A : Option Addr} {n c : Nat} {f : Nat → Int} (h : Bytes w A n c f) (o : Obj) : Bytes (w.alloc o) A n c f := h.keep (by simp) (fun p hp => World.cell?_alloc_lt _ _ _ hp)

/-- A shaft and two numbers, in new memory alone. -/
def TwinTwoDrawn (w : World) (e : Ending) (w' : World) : Prop := ∃ f l h a b : Int, e = .returned (.tuple #[.agg #[.int .i64 f, .int .i64 l, .int .i64 h], .int .i64 a, .int .i64 b]) ∧ Below w.heap.size w w'
end Go.Proofs.Ytpcdedigblijbaa
