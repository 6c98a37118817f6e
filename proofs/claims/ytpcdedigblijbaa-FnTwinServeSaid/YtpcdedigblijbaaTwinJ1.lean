/- A drawn shaft and a move: contract. -/
import Derived.Test.YtpcdedigblijbaaTwinJ
namespace Go.Proofs.Ytpcdedigblijbaa
open Go.ChangeShapes Go.WideShapes Go.ChangeAt Go.RowKit

/-- A shaft and a move, in new memory alone. -/
def TwinMoveDrawn (w : World) (e : Ending) (w' : World) : Prop := ∃ f l h c t : Int, e = .returned (.tuple #[.agg #[.int .i64 f, .int .i64 l, .int .i64 h], .agg #[.int .i64 c, .int .i64 t]]) ∧ Below w.heap.size w w'

set_option maxHeartbeats 2000000 in
theorem drawTwinDo_any (A : Option Addr) (n c : Nat) (g : Nat → Int) (w : World) (h : Bytes w A n c g) : Calls Try.prog 37 #[.slice A n c] w (TwinMoveDrawn w) := by
  go_enter Try.func37, Try.ntmps37
  go_wp2_with fail
  refine (open_any A n c g _ ((h.alloc _).alloc _)).mono ?_
  rintro e w1 ⟨rfl, hb1, rd1⟩
  simp only [World.size_alloc] at rd1
  obtain ⟨c1, f1, z1, y1, x1, s1⟩ := bfacts5 hb1
  simp at s1
  have q0 : w.heap.size < w1.heap.size := by omega
  have q1 : w.heap.size + 1 < w1.heap.size := by omega
  go_wp2_with fail
  refine (l20TwinB_any (w.heap.size + 1 + 1) 0 _ _ rd1 (by omega) (by omega) (by omega)).mono ?_
  rintro e w2 ⟨f, l, h, rfl, ow2, rd2, bf1, bf2⟩
  obtain ⟨cw20, fw20, zw20, yw20, xw20, vw20⟩ := only_facts ow2 (w.heap.size) (by first | omega | (simp; omega) | (simp; done)) (by omega)
  obtain ⟨cw21, fw21, zw21, yw21, xw21, vw21⟩ := only_facts ow2 (w.heap.size + 1) (by first | omega | (simp; omega) | (simp; done)) (by omega)
  have sw2 := only_size ow2
  try simp at sw2
  have hr2 := rd2.lt
  have k0 : w2.cell? ⟨w.heap.size, 0, none⟩ = some (.int .i64 0) := by rw [cw20, c1 _ _ (by simp; omega)]; go_simp
  have k1 : w2.cell? ⟨w.heap.size, 1, none⟩ = some (.int .i64 0) := by rw [cw20, c1 _ _ (by simp; omega)]; go_simp
  have k2 : w2.cell? ⟨w.heap.size, 2, none⟩ = some (.int .i64 0) := by rw [cw20, c1 _ _ (by simp; omega)]; go_simp
  have k3 : w2.cell? ⟨w.heap.size + 1, 0, none⟩ = some (.int .i64 0) := by rw [cw21, c1 _ _ (by simp)]; go_simp
  have k4 : w2.cell? ⟨w.heap.size + 1, 1, none⟩ = some (.int .i64 0) := by rw [cw21, c1 _ _ (by simp)]; go_simp
  have n0 : ∀ o, w2.frozen? ⟨w.heap.size, o, none⟩ = false := fun o => by rw [fw20, f1 _ _ (by simp; omega)]; go_simp
  have n1 : ∀ o, w2.frozen? ⟨w.heap.size + 1, o, none⟩ = false := fun o => by rw [fw21, f1 _ _ (by simp)]; go_simp
  clear cw20 fw20 cw21 fw21 c1 f1
  have d1 : ¬ w2.heap.size = w.heap.size + 1 + 1 := by omega
  have d2 : ¬ w.heap.size + 1 + 1 = w2.heap.size := by omega
  go_wp2_with fail
  go_region_with ((go_at_call 50; go_must (refine (l20TwinMove_any (w.heap.size + 1 + 1) 6 f l h _ (rd2.above (by first | (exact Below.refl _ _) | go_grown)) (by omega) (by omega) (by omega)).mono ?_; rintro e w3 ⟨cc, tt, rfl, ow3, rd3⟩; obtain ⟨cw30, fw30, zw30, yw30, xw30, vw30⟩ := only_facts ow3 (w.heap.size) (by first | omega | (simp; omega) | (simp; done)) (by omega); obtain ⟨cw31, fw31, zw31, yw31, xw31, vw31⟩ := only_facts ow3 (w.heap.size + 1) (by first | omega | (simp; omega) | (simp; done)) (by omega); obtain ⟨cw32, fw32, zw32, yw32, xw32, vw32⟩ := only_facts ow3 (w2.heap.size) (by first | omega | (simp; omega) | (simp; done)) (by omega); have sw3 := only_size ow3; (try simp at sw3))))
  all_goals go_wp2
  all_goals refine bodyPost_ret (by simp [results, Try.results37, go_sem, *]; try rfl) rfl ?_
  all_goals exact ⟨_, _, _, _, _, rfl, by (repeat' (first | (with_reducible exact Below.refl _ _) | (with_reducible assumption) | (with_reducible exact bundrew (by assumption)) | (with_reducible refine balloc ?_ _) | (with_reducible refine bset ?_ _ ?_ _) | (with_reducible refine Below.drew ?_) | (with_reducible refine bdrewN ?_ _) | (with_reducible refine bonly (by assumption) ?_ ?_) | (with_reducible refine bvia (by assumption) ?_) | (with_reducible refine Below.trans ?_ (by assumption)) | omega | (simp; omega) | (simp; done)))⟩

end Go.Proofs.Ytpcdedigblijbaa
